/-
  DERIVED. GIVEN WITH THE SEED: THE CARDS: each row of YtpmhinidiplhiaaDoorRows.lean that lists a variable, with what it lists TIED to the program's text (the seventh form; the later family's looks); each row that meets fmt, with fmt's text TOLD by the authors' own Lean function (tested against real Go, not proved from fmt's source: count such statements apart). THE CARD IS WHAT COUNTS. Prove the row's statement (the work); the ties are given (YtpmhinidiplhiaaDoorTie.lean); close each card by the builder's one call (the guide's Derived/Test/ToyasCard.lean, 'card_holds'). Laid BY PROGRAM, IN A SANDBOX (cutbox-door.mjs). By AI agents, Wed Nov 11 2026. No macro, syntax, notation, axiom, sorry.
-/
import Derived.Test.YtpmhinidiplhiaaDoorRows
import GoSem.ClaimSeven
namespace Go.Proofs.YtpmhinidiplhiaaDoor
namespace Rows

/-- THE TIED CARD OF 'weirlaw16.RulesBack'. -/
def rulesBackCard : Claim7 := { stood := { row := rulesBackRow, standIns := [], harness := (true, "6b2c08a2ddc12be1383ae4ea3c2b93c9cbdcae57ba0d2fdd2166556315ed3991"), looks := false }, kinds := [], alts := [], laidByText := true, laidKinds := [.data, .data, .data, .widerDeep, .widerDeep, .widerDeep], laidTests := true, laidLooks := .later }
def RulesBackCardSaid : Prop := Claim7.holds Tryd.pinned (.plain (OpenSpec.ofChange rulesBackSpec)) rulesBackCard

/-- THE TIED CARD OF 'weirlaw16.RulesAgain'. -/
def rulesAgainCard : Claim7 := { stood := { row := rulesAgainRow, standIns := [], harness := (true, "6b2c08a2ddc12be1383ae4ea3c2b93c9cbdcae57ba0d2fdd2166556315ed3991"), looks := false }, kinds := [], alts := [], laidByText := true, laidKinds := [.data, .data, .data, .widerDeep, .widerDeep, .widerDeep], laidTests := true, laidLooks := .later }
def RulesAgainCardSaid : Prop := Claim7.holds Tryd.pinned (.plain (OpenSpec.ofChange rulesAgainSpec)) rulesAgainCard

/-- THE TIED CARD OF 'weirlaw16.RulesUnlike'. -/
def rulesUnlikeCard : Claim7 := { stood := { row := rulesUnlikeRow, standIns := [], harness := (true, "6b2c08a2ddc12be1383ae4ea3c2b93c9cbdcae57ba0d2fdd2166556315ed3991"), looks := false }, kinds := [], alts := [], laidByText := true, laidKinds := [.data, .data, .data, .widerDeep, .widerDeep, .widerDeep], laidTests := true, laidLooks := .later }
def RulesUnlikeCardSaid : Prop := Claim7.holds Tryd.pinned (.plain (OpenSpec.ofChange rulesUnlikeSpec)) rulesUnlikeCard

/-- THE SECOND FORM's CARD OF 'weirlaw16.RulesBack'. -/
def rulesBackUptoCard : Claim7 := { stood := { row := rulesBackUptoRow, standIns := [], harness := (true, "6b2c08a2ddc12be1383ae4ea3c2b93c9cbdcae57ba0d2fdd2166556315ed3991"), looks := false }, kinds := [], alts := [], laidByText := true, laidKinds := [.data, .data, .data, .widerDeep, .widerDeep, .widerDeep], laidTests := true, laidLooks := .later }
def RulesBackUptoCardSaid : Prop := Claim7.holds Tryd.pinned (.plain (OpenSpec.upto rulesBackSpec)) rulesBackUptoCard

/-- THE SECOND FORM's CARD OF 'weirlaw16.RulesAgain'. -/
def rulesAgainUptoCard : Claim7 := { stood := { row := rulesAgainUptoRow, standIns := [], harness := (true, "6b2c08a2ddc12be1383ae4ea3c2b93c9cbdcae57ba0d2fdd2166556315ed3991"), looks := false }, kinds := [], alts := [], laidByText := true, laidKinds := [.data, .data, .data, .widerDeep, .widerDeep, .widerDeep], laidTests := true, laidLooks := .later }
def RulesAgainUptoCardSaid : Prop := Claim7.holds Tryd.pinned (.plain (OpenSpec.upto rulesAgainSpec)) rulesAgainUptoCard

/-- THE SECOND FORM's CARD OF 'weirlaw16.RulesUnlike'. -/
def rulesUnlikeUptoCard : Claim7 := { stood := { row := rulesUnlikeUptoRow, standIns := [], harness := (true, "6b2c08a2ddc12be1383ae4ea3c2b93c9cbdcae57ba0d2fdd2166556315ed3991"), looks := false }, kinds := [], alts := [], laidByText := true, laidKinds := [.data, .data, .data, .widerDeep, .widerDeep, .widerDeep], laidTests := true, laidLooks := .later }
def RulesUnlikeUptoCardSaid : Prop := Claim7.holds Tryd.pinned (.plain (OpenSpec.upto rulesUnlikeSpec)) rulesUnlikeUptoCard
end Rows
end Go.Proofs.YtpmhinidiplhiaaDoor
