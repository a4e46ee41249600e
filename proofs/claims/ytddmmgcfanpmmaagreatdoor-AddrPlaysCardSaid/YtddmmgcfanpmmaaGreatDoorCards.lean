/-
  DERIVED. GIVEN WITH THE SEED: THE CARDS: each row of YtddmmgcfanpmmaaGreatDoorRows.lean that lists a variable, with what it lists TIED to the program's text (the seventh form; the later family's looks); each row that meets fmt, with fmt's text TOLD by the authors' own Lean function (tested against real Go, not proved from fmt's source: count such statements apart). THE CARD IS WHAT COUNTS. Prove the row's statement (the work); the ties are given (YtddmmgcfanpmmaaGreatDoorTie.lean); close each card by the builder's one call (the guide's Derived/Test/ToyasCard.lean, 'card_holds'). Laid BY PROGRAM, IN A SANDBOX (cutbox-door.mjs). By AI agents, Wed Nov 11 2026. No macro, syntax, notation, axiom, sorry.
-/
import Derived.Test.YtddmmgcfanpmmaaGreatDoorRows
import GoSem.ClaimSeven
namespace Go.Proofs.YtddmmgcfanpmmaaGreatDoor
namespace Rows

/-- THE TIED CARD OF 'weirlaw4.AddrParses'. -/
def addrParsesCard : Claim7 := { stood := { row := addrParsesRow, standIns := [], harness := (true, "bb6702d6881a39130cd29388b8cdf9a24725ac0ef2391015ad15101ccbd6a62f"), looks := false }, kinds := [], alts := [], laidByText := true, laidKinds := [.data, .data, .data, .data], laidTests := true, laidLooks := .later }
def AddrParsesCardSaid : Prop := Claim7.holds Tryz.pinned (.plain (OpenSpec.ofChange addrParsesSpec)) addrParsesCard

/-- THE TIED CARD OF 'weirlaw4.AddrPrints'. -/
def addrPrintsCard : Claim7 := { stood := { row := addrPrintsRow, standIns := [], harness := (true, "bb6702d6881a39130cd29388b8cdf9a24725ac0ef2391015ad15101ccbd6a62f"), looks := false }, kinds := [], alts := [], laidByText := true, laidKinds := [.data, .data, .data, .data], laidTests := true, laidLooks := .later }
def AddrPrintsCardSaid : Prop := Claim7.holds Tryz.pinned (.plain (OpenSpec.ofChange addrPrintsSpec)) addrPrintsCard

/-- THE TIED CARD OF 'weirlaw4.AddrKnows'. -/
def addrKnowsCard : Claim7 := { stood := { row := addrKnowsRow, standIns := [], harness := (true, "bb6702d6881a39130cd29388b8cdf9a24725ac0ef2391015ad15101ccbd6a62f"), looks := false }, kinds := [], alts := [], laidByText := true, laidKinds := [.data, .data, .data, .data], laidTests := true, laidLooks := .later }
def AddrKnowsCardSaid : Prop := Claim7.holds Tryz.pinned (.plain (OpenSpec.ofChange addrKnowsSpec)) addrKnowsCard

/-- THE TIED CARD OF 'weirlaw4.AddrPlays'. -/
def addrPlaysCard : Claim7 := { stood := { row := addrPlaysRow, standIns := [], harness := (true, "bb6702d6881a39130cd29388b8cdf9a24725ac0ef2391015ad15101ccbd6a62f"), looks := false }, kinds := [], alts := [], laidByText := true, laidKinds := [.data, .data, .data, .data], laidTests := true, laidLooks := .later }
def AddrPlaysCardSaid : Prop := Claim7.holds Tryz.pinned (.plain (OpenSpec.ofChange addrPlaysSpec)) addrPlaysCard

/-- THE SECOND FORM's CARD OF 'weirlaw4.AddrParses'. -/
def addrParsesUptoCard : Claim7 := { stood := { row := addrParsesUptoRow, standIns := [], harness := (true, "bb6702d6881a39130cd29388b8cdf9a24725ac0ef2391015ad15101ccbd6a62f"), looks := false }, kinds := [], alts := [], laidByText := true, laidKinds := [.data, .data, .data, .data], laidTests := true, laidLooks := .later }
def AddrParsesUptoCardSaid : Prop := Claim7.holds Tryz.pinned (.plain (OpenSpec.upto addrParsesSpec)) addrParsesUptoCard

/-- THE SECOND FORM's CARD OF 'weirlaw4.AddrPrints'. -/
def addrPrintsUptoCard : Claim7 := { stood := { row := addrPrintsUptoRow, standIns := [], harness := (true, "bb6702d6881a39130cd29388b8cdf9a24725ac0ef2391015ad15101ccbd6a62f"), looks := false }, kinds := [], alts := [], laidByText := true, laidKinds := [.data, .data, .data, .data], laidTests := true, laidLooks := .later }
def AddrPrintsUptoCardSaid : Prop := Claim7.holds Tryz.pinned (.plain (OpenSpec.upto addrPrintsSpec)) addrPrintsUptoCard

/-- THE SECOND FORM's CARD OF 'weirlaw4.AddrKnows'. -/
def addrKnowsUptoCard : Claim7 := { stood := { row := addrKnowsUptoRow, standIns := [], harness := (true, "bb6702d6881a39130cd29388b8cdf9a24725ac0ef2391015ad15101ccbd6a62f"), looks := false }, kinds := [], alts := [], laidByText := true, laidKinds := [.data, .data, .data, .data], laidTests := true, laidLooks := .later }
def AddrKnowsUptoCardSaid : Prop := Claim7.holds Tryz.pinned (.plain (OpenSpec.upto addrKnowsSpec)) addrKnowsUptoCard

/-- THE SECOND FORM's CARD OF 'weirlaw4.AddrPlays'. -/
def addrPlaysUptoCard : Claim7 := { stood := { row := addrPlaysUptoRow, standIns := [], harness := (true, "bb6702d6881a39130cd29388b8cdf9a24725ac0ef2391015ad15101ccbd6a62f"), looks := false }, kinds := [], alts := [], laidByText := true, laidKinds := [.data, .data, .data, .data], laidTests := true, laidLooks := .later }
def AddrPlaysUptoCardSaid : Prop := Claim7.holds Tryz.pinned (.plain (OpenSpec.upto addrPlaysSpec)) addrPlaysUptoCard
end Rows
end Go.Proofs.YtddmmgcfanpmmaaGreatDoor
