/-
  DERIVED. GIVEN WITH THE SEED: THE CARDS: each row of YtpmhinidiplhiaaGreatDoorRows.lean that lists a variable, with what it lists TIED to the program's text (the seventh form; the later family's looks); each row that meets fmt, with fmt's text TOLD by the authors' own Lean function (tested against real Go, not proved from fmt's source: count such statements apart). THE CARD IS WHAT COUNTS. Prove the row's statement (the work); the ties are given (YtpmhinidiplhiaaGreatDoorTie.lean); close each card by the builder's one call (the guide's Derived/Test/ToyasCard.lean, 'card_holds'). Laid BY PROGRAM, IN A SANDBOX (cutbox-door.mjs). By AI agents, Wed Nov 11 2026. No macro, syntax, notation, axiom, sorry.
-/
import Derived.Test.YtpmhinidiplhiaaGreatDoorRows
import GoSem.ClaimSeven
namespace Go.Proofs.YtpmhinidiplhiaaGreatDoor
namespace Rows

/-- THE TIED CARD OF 'weirlaw16.RulesLines'. -/
def rulesLinesCard : Claim7 := { stood := { row := rulesLinesRow, standIns := [], harness := (true, "e143abb269b35412d8ed60337150e67efa44eaf3dd2bf50a7cedfbe32f7e4bd8"), looks := false }, kinds := [], alts := [], laidByText := true, laidKinds := [.data, .data, .data, .widerDeep, .widerDeep, .widerDeep], laidTests := true, laidLooks := .later }
def RulesLinesCardSaid : Prop := Claim7.holds Tryz.pinned (.plain (OpenSpec.ofChange rulesLinesSpec)) rulesLinesCard

/-- THE TIED CARD OF 'weirlaw16.RulesPrints'. -/
def rulesPrintsCard : Claim7 := { stood := { row := rulesPrintsRow, standIns := [], harness := (true, "e143abb269b35412d8ed60337150e67efa44eaf3dd2bf50a7cedfbe32f7e4bd8"), looks := false }, kinds := [], alts := [], laidByText := true, laidKinds := [.data, .data, .data, .widerDeep, .widerDeep, .widerDeep], laidTests := true, laidLooks := .later }
def RulesPrintsCardSaid : Prop := Claim7.holds Tryz.pinned (.plain (OpenSpec.ofChange rulesPrintsSpec)) rulesPrintsCard

/-- THE TIED CARD OF 'weirlaw16.RulesLent'. -/
def rulesLentCard : Claim7 := { stood := { row := rulesLentRow, standIns := [], harness := (true, "e143abb269b35412d8ed60337150e67efa44eaf3dd2bf50a7cedfbe32f7e4bd8"), looks := false }, kinds := [], alts := [], laidByText := true, laidKinds := [.data, .data, .data, .widerDeep, .widerDeep, .widerDeep], laidTests := true, laidLooks := .later }
def RulesLentCardSaid : Prop := Claim7.holds Tryz.pinned (.plain (OpenSpec.ofChange rulesLentSpec)) rulesLentCard

/-- THE TIED CARD OF 'weirlaw16.RulesFirst'. -/
def rulesFirstCard : Claim7 := { stood := { row := rulesFirstRow, standIns := [], harness := (true, "e143abb269b35412d8ed60337150e67efa44eaf3dd2bf50a7cedfbe32f7e4bd8"), looks := false }, kinds := [], alts := [], laidByText := true, laidKinds := [.data, .data, .data, .widerDeep, .widerDeep, .widerDeep], laidTests := true, laidLooks := .later }
def RulesFirstCardSaid : Prop := Claim7.holds Tryz.pinned (.plain (OpenSpec.ofChange rulesFirstSpec)) rulesFirstCard

/-- THE TIED CARD OF 'weirlaw16.RulesAny'. -/
def rulesAnyCard : Claim7 := { stood := { row := rulesAnyRow, standIns := [], harness := (true, "e143abb269b35412d8ed60337150e67efa44eaf3dd2bf50a7cedfbe32f7e4bd8"), looks := false }, kinds := [], alts := [], laidByText := true, laidKinds := [.data, .data, .data, .widerDeep, .widerDeep, .widerDeep], laidTests := true, laidLooks := .later }
def RulesAnyCardSaid : Prop := Claim7.holds Tryz.pinned (.plain (OpenSpec.ofChange rulesAnySpec)) rulesAnyCard

/-- THE TIED CARD OF 'weirlaw16.RulesNot'. -/
def rulesNotCard : Claim7 := { stood := { row := rulesNotRow, standIns := [], harness := (true, "e143abb269b35412d8ed60337150e67efa44eaf3dd2bf50a7cedfbe32f7e4bd8"), looks := false }, kinds := [], alts := [], laidByText := true, laidKinds := [.data, .data, .data, .widerDeep, .widerDeep, .widerDeep], laidTests := true, laidLooks := .later }
def RulesNotCardSaid : Prop := Claim7.holds Tryz.pinned (.plain (OpenSpec.ofChange rulesNotSpec)) rulesNotCard

/-- THE TIED CARD OF 'weirlaw16.RulesCase'. -/
def rulesCaseCard : Claim7 := { stood := { row := rulesCaseRow, standIns := [], harness := (true, "e143abb269b35412d8ed60337150e67efa44eaf3dd2bf50a7cedfbe32f7e4bd8"), looks := false }, kinds := [], alts := [], laidByText := true, laidKinds := [.data, .data, .data, .widerDeep, .widerDeep, .widerDeep], laidTests := true, laidLooks := .later }
def RulesCaseCardSaid : Prop := Claim7.holds Tryz.pinned (.plain (OpenSpec.ofChange rulesCaseSpec)) rulesCaseCard

/-- THE TIED CARD OF 'weirlaw16.RulesSets'. -/
def rulesSetsCard : Claim7 := { stood := { row := rulesSetsRow, standIns := [], harness := (true, "e143abb269b35412d8ed60337150e67efa44eaf3dd2bf50a7cedfbe32f7e4bd8"), looks := false }, kinds := [], alts := [], laidByText := true, laidKinds := [.data, .data, .data, .widerDeep, .widerDeep, .widerDeep], laidTests := true, laidLooks := .later }
def RulesSetsCardSaid : Prop := Claim7.holds Tryz.pinned (.plain (OpenSpec.ofChange rulesSetsSpec)) rulesSetsCard

/-- THE TIED CARD OF 'weirlaw16.RulesParse'. -/
def rulesParseCard : Claim7 := { stood := { row := rulesParseRow, standIns := [], harness := (true, "e143abb269b35412d8ed60337150e67efa44eaf3dd2bf50a7cedfbe32f7e4bd8"), looks := false }, kinds := [], alts := [], laidByText := true, laidKinds := [.data, .data, .data, .data, .widerDeep, .widerDeep, .widerDeep, .pinned], laidTests := true, laidLooks := .later }
def RulesParseCardSaid : Prop := Claim7.holds Tryz.pinned (.plain (OpenSpec.ofChange rulesParseSpec)) rulesParseCard

/-- THE TIED CARD OF 'weirlaw16.RulesTwo'. -/
def rulesTwoCard : Claim7 := { stood := { row := rulesTwoRow, standIns := [], harness := (true, "e143abb269b35412d8ed60337150e67efa44eaf3dd2bf50a7cedfbe32f7e4bd8"), looks := false }, kinds := [], alts := [], laidByText := true, laidKinds := [.data, .data, .data, .data, .widerDeep, .widerDeep, .widerDeep, .pinned], laidTests := true, laidLooks := .later }
def RulesTwoCardSaid : Prop := Claim7.holds Tryz.pinned (.plain (OpenSpec.ofChange rulesTwoSpec)) rulesTwoCard

/-- THE TIED CARD OF 'weirlaw16.RulesTurned'. -/
def rulesTurnedCard : Claim7 := { stood := { row := rulesTurnedRow, standIns := [], harness := (true, "e143abb269b35412d8ed60337150e67efa44eaf3dd2bf50a7cedfbe32f7e4bd8"), looks := false }, kinds := [], alts := [], laidByText := true, laidKinds := [.data, .data, .data, .data, .widerDeep, .widerDeep, .widerDeep, .pinned], laidTests := true, laidLooks := .later }
def RulesTurnedCardSaid : Prop := Claim7.holds Tryz.pinned (.plain (OpenSpec.ofChange rulesTurnedSpec)) rulesTurnedCard

/-- THE SECOND FORM's CARD OF 'weirlaw16.RulesLines'. -/
def rulesLinesUptoCard : Claim7 := { stood := { row := rulesLinesUptoRow, standIns := [], harness := (true, "e143abb269b35412d8ed60337150e67efa44eaf3dd2bf50a7cedfbe32f7e4bd8"), looks := false }, kinds := [], alts := [], laidByText := true, laidKinds := [.data, .data, .data, .widerDeep, .widerDeep, .widerDeep], laidTests := true, laidLooks := .later }
def RulesLinesUptoCardSaid : Prop := Claim7.holds Tryz.pinned (.plain (OpenSpec.upto rulesLinesSpec)) rulesLinesUptoCard

/-- THE SECOND FORM's CARD OF 'weirlaw16.RulesPrints'. -/
def rulesPrintsUptoCard : Claim7 := { stood := { row := rulesPrintsUptoRow, standIns := [], harness := (true, "e143abb269b35412d8ed60337150e67efa44eaf3dd2bf50a7cedfbe32f7e4bd8"), looks := false }, kinds := [], alts := [], laidByText := true, laidKinds := [.data, .data, .data, .widerDeep, .widerDeep, .widerDeep], laidTests := true, laidLooks := .later }
def RulesPrintsUptoCardSaid : Prop := Claim7.holds Tryz.pinned (.plain (OpenSpec.upto rulesPrintsSpec)) rulesPrintsUptoCard

/-- THE SECOND FORM's CARD OF 'weirlaw16.RulesLent'. -/
def rulesLentUptoCard : Claim7 := { stood := { row := rulesLentUptoRow, standIns := [], harness := (true, "e143abb269b35412d8ed60337150e67efa44eaf3dd2bf50a7cedfbe32f7e4bd8"), looks := false }, kinds := [], alts := [], laidByText := true, laidKinds := [.data, .data, .data, .widerDeep, .widerDeep, .widerDeep], laidTests := true, laidLooks := .later }
def RulesLentUptoCardSaid : Prop := Claim7.holds Tryz.pinned (.plain (OpenSpec.upto rulesLentSpec)) rulesLentUptoCard

/-- THE SECOND FORM's CARD OF 'weirlaw16.RulesFirst'. -/
def rulesFirstUptoCard : Claim7 := { stood := { row := rulesFirstUptoRow, standIns := [], harness := (true, "e143abb269b35412d8ed60337150e67efa44eaf3dd2bf50a7cedfbe32f7e4bd8"), looks := false }, kinds := [], alts := [], laidByText := true, laidKinds := [.data, .data, .data, .widerDeep, .widerDeep, .widerDeep], laidTests := true, laidLooks := .later }
def RulesFirstUptoCardSaid : Prop := Claim7.holds Tryz.pinned (.plain (OpenSpec.upto rulesFirstSpec)) rulesFirstUptoCard

/-- THE SECOND FORM's CARD OF 'weirlaw16.RulesAny'. -/
def rulesAnyUptoCard : Claim7 := { stood := { row := rulesAnyUptoRow, standIns := [], harness := (true, "e143abb269b35412d8ed60337150e67efa44eaf3dd2bf50a7cedfbe32f7e4bd8"), looks := false }, kinds := [], alts := [], laidByText := true, laidKinds := [.data, .data, .data, .widerDeep, .widerDeep, .widerDeep], laidTests := true, laidLooks := .later }
def RulesAnyUptoCardSaid : Prop := Claim7.holds Tryz.pinned (.plain (OpenSpec.upto rulesAnySpec)) rulesAnyUptoCard

/-- THE SECOND FORM's CARD OF 'weirlaw16.RulesNot'. -/
def rulesNotUptoCard : Claim7 := { stood := { row := rulesNotUptoRow, standIns := [], harness := (true, "e143abb269b35412d8ed60337150e67efa44eaf3dd2bf50a7cedfbe32f7e4bd8"), looks := false }, kinds := [], alts := [], laidByText := true, laidKinds := [.data, .data, .data, .widerDeep, .widerDeep, .widerDeep], laidTests := true, laidLooks := .later }
def RulesNotUptoCardSaid : Prop := Claim7.holds Tryz.pinned (.plain (OpenSpec.upto rulesNotSpec)) rulesNotUptoCard

/-- THE SECOND FORM's CARD OF 'weirlaw16.RulesCase'. -/
def rulesCaseUptoCard : Claim7 := { stood := { row := rulesCaseUptoRow, standIns := [], harness := (true, "e143abb269b35412d8ed60337150e67efa44eaf3dd2bf50a7cedfbe32f7e4bd8"), looks := false }, kinds := [], alts := [], laidByText := true, laidKinds := [.data, .data, .data, .widerDeep, .widerDeep, .widerDeep], laidTests := true, laidLooks := .later }
def RulesCaseUptoCardSaid : Prop := Claim7.holds Tryz.pinned (.plain (OpenSpec.upto rulesCaseSpec)) rulesCaseUptoCard

/-- THE SECOND FORM's CARD OF 'weirlaw16.RulesSets'. -/
def rulesSetsUptoCard : Claim7 := { stood := { row := rulesSetsUptoRow, standIns := [], harness := (true, "e143abb269b35412d8ed60337150e67efa44eaf3dd2bf50a7cedfbe32f7e4bd8"), looks := false }, kinds := [], alts := [], laidByText := true, laidKinds := [.data, .data, .data, .widerDeep, .widerDeep, .widerDeep], laidTests := true, laidLooks := .later }
def RulesSetsUptoCardSaid : Prop := Claim7.holds Tryz.pinned (.plain (OpenSpec.upto rulesSetsSpec)) rulesSetsUptoCard

/-- THE SECOND FORM's CARD OF 'weirlaw16.RulesParse'. -/
def rulesParseUptoCard : Claim7 := { stood := { row := rulesParseUptoRow, standIns := [], harness := (true, "e143abb269b35412d8ed60337150e67efa44eaf3dd2bf50a7cedfbe32f7e4bd8"), looks := false }, kinds := [], alts := [], laidByText := true, laidKinds := [.data, .data, .data, .data, .widerDeep, .widerDeep, .widerDeep, .pinned], laidTests := true, laidLooks := .later }
def RulesParseUptoCardSaid : Prop := Claim7.holds Tryz.pinned (.plain (OpenSpec.upto rulesParseSpec)) rulesParseUptoCard

/-- THE SECOND FORM's CARD OF 'weirlaw16.RulesTwo'. -/
def rulesTwoUptoCard : Claim7 := { stood := { row := rulesTwoUptoRow, standIns := [], harness := (true, "e143abb269b35412d8ed60337150e67efa44eaf3dd2bf50a7cedfbe32f7e4bd8"), looks := false }, kinds := [], alts := [], laidByText := true, laidKinds := [.data, .data, .data, .data, .widerDeep, .widerDeep, .widerDeep, .pinned], laidTests := true, laidLooks := .later }
def RulesTwoUptoCardSaid : Prop := Claim7.holds Tryz.pinned (.plain (OpenSpec.upto rulesTwoSpec)) rulesTwoUptoCard

/-- THE SECOND FORM's CARD OF 'weirlaw16.RulesTurned'. -/
def rulesTurnedUptoCard : Claim7 := { stood := { row := rulesTurnedUptoRow, standIns := [], harness := (true, "e143abb269b35412d8ed60337150e67efa44eaf3dd2bf50a7cedfbe32f7e4bd8"), looks := false }, kinds := [], alts := [], laidByText := true, laidKinds := [.data, .data, .data, .data, .widerDeep, .widerDeep, .widerDeep, .pinned], laidTests := true, laidLooks := .later }
def RulesTurnedUptoCardSaid : Prop := Claim7.holds Tryz.pinned (.plain (OpenSpec.upto rulesTurnedSpec)) rulesTurnedUptoCard
end Rows
end Go.Proofs.YtpmhinidiplhiaaGreatDoor
