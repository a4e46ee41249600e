/-
  DERIVED. GIVEN WITH THE SEED: THE CARDS: each row of YtddmmgcfanpmmaaDoorRows.lean that lists a variable, with what it lists TIED to the program's text (the seventh form; the later family's looks); each row that meets fmt, with fmt's text TOLD by the authors' own Lean function (tested against real Go, not proved from fmt's source: count such statements apart). THE CARD IS WHAT COUNTS. Prove the row's statement (the work); the ties are given (YtddmmgcfanpmmaaDoorTie.lean); close each card by the builder's one call (the guide's Derived/Test/ToyasCard.lean, 'card_holds'). Laid BY PROGRAM, IN A SANDBOX (cutbox-door.mjs). By AI agents, Wed Nov 11 2026. No macro, syntax, notation, axiom, sorry.
-/
import Derived.Test.YtddmmgcfanpmmaaDoorRows
import GoSem.ClaimSeven
namespace Go.Proofs.YtddmmgcfanpmmaaDoor
namespace Rows

/-- THE TIED CARD OF 'weirlaw4.AddrForms'. -/
def addrFormsCard : Claim7 := { stood := { row := addrFormsRow, standIns := [], harness := (true, "ac147f9e94a3070efe29ea45b983ce35191834d2f83e9d62f8250587eaaccc2e"), looks := false }, kinds := [], alts := [], laidByText := true, laidKinds := [.data, .data, .data, .data], laidTests := true, laidLooks := .later }
def AddrFormsCardSaid : Prop := Claim7.holds Tryd.pinned (.plain (OpenSpec.ofChange addrFormsSpec)) addrFormsCard

/-- THE TIED CARD OF 'weirlaw4.AddrNets'. -/
def addrNetsCard : Claim7 := { stood := { row := addrNetsRow, standIns := [], harness := (true, "ac147f9e94a3070efe29ea45b983ce35191834d2f83e9d62f8250587eaaccc2e"), looks := false }, kinds := [], alts := [], laidByText := true, laidKinds := [.data, .data, .data, .data], laidTests := true, laidLooks := .later }
def AddrNetsCardSaid : Prop := Claim7.holds Tryd.pinned (.plain (OpenSpec.ofChange addrNetsSpec)) addrNetsCard

/-- THE TIED CARD OF 'weirlaw4.AddrUnlike'. -/
def addrUnlikeCard : Claim7 := { stood := { row := addrUnlikeRow, standIns := [], harness := (true, "ac147f9e94a3070efe29ea45b983ce35191834d2f83e9d62f8250587eaaccc2e"), looks := false }, kinds := [], alts := [], laidByText := true, laidKinds := [.data, .data, .data, .data], laidTests := true, laidLooks := .later }
def AddrUnlikeCardSaid : Prop := Claim7.holds Tryd.pinned (.plain (OpenSpec.ofChange addrUnlikeSpec)) addrUnlikeCard

/-- THE TIED CARD OF 'weirlaw4.AddrBack'. -/
def addrBackCard : Claim7 := { stood := { row := addrBackRow, standIns := [], harness := (true, "ac147f9e94a3070efe29ea45b983ce35191834d2f83e9d62f8250587eaaccc2e"), looks := false }, kinds := [], alts := [], laidByText := true, laidKinds := [.data, .data, .data, .data], laidTests := true, laidLooks := .later }
def AddrBackCardSaid : Prop := Claim7.holds Tryd.pinned (.plain (OpenSpec.ofChange addrBackSpec)) addrBackCard

/-- THE TIED CARD OF 'weirlaw4.AddrAgain'. -/
def addrAgainCard : Claim7 := { stood := { row := addrAgainRow, standIns := [], harness := (true, "ac147f9e94a3070efe29ea45b983ce35191834d2f83e9d62f8250587eaaccc2e"), looks := false }, kinds := [], alts := [], laidByText := true, laidKinds := [.data, .data, .data, .data], laidTests := true, laidLooks := .later }
def AddrAgainCardSaid : Prop := Claim7.holds Tryd.pinned (.plain (OpenSpec.ofChange addrAgainSpec)) addrAgainCard

/-- THE SECOND FORM's CARD OF 'weirlaw4.AddrForms'. -/
def addrFormsUptoCard : Claim7 := { stood := { row := addrFormsUptoRow, standIns := [], harness := (true, "ac147f9e94a3070efe29ea45b983ce35191834d2f83e9d62f8250587eaaccc2e"), looks := false }, kinds := [], alts := [], laidByText := true, laidKinds := [.data, .data, .data, .data], laidTests := true, laidLooks := .later }
def AddrFormsUptoCardSaid : Prop := Claim7.holds Tryd.pinned (.plain (OpenSpec.upto addrFormsSpec)) addrFormsUptoCard

/-- THE SECOND FORM's CARD OF 'weirlaw4.AddrNets'. -/
def addrNetsUptoCard : Claim7 := { stood := { row := addrNetsUptoRow, standIns := [], harness := (true, "ac147f9e94a3070efe29ea45b983ce35191834d2f83e9d62f8250587eaaccc2e"), looks := false }, kinds := [], alts := [], laidByText := true, laidKinds := [.data, .data, .data, .data], laidTests := true, laidLooks := .later }
def AddrNetsUptoCardSaid : Prop := Claim7.holds Tryd.pinned (.plain (OpenSpec.upto addrNetsSpec)) addrNetsUptoCard

/-- THE SECOND FORM's CARD OF 'weirlaw4.AddrUnlike'. -/
def addrUnlikeUptoCard : Claim7 := { stood := { row := addrUnlikeUptoRow, standIns := [], harness := (true, "ac147f9e94a3070efe29ea45b983ce35191834d2f83e9d62f8250587eaaccc2e"), looks := false }, kinds := [], alts := [], laidByText := true, laidKinds := [.data, .data, .data, .data], laidTests := true, laidLooks := .later }
def AddrUnlikeUptoCardSaid : Prop := Claim7.holds Tryd.pinned (.plain (OpenSpec.upto addrUnlikeSpec)) addrUnlikeUptoCard

/-- THE SECOND FORM's CARD OF 'weirlaw4.AddrBack'. -/
def addrBackUptoCard : Claim7 := { stood := { row := addrBackUptoRow, standIns := [], harness := (true, "ac147f9e94a3070efe29ea45b983ce35191834d2f83e9d62f8250587eaaccc2e"), looks := false }, kinds := [], alts := [], laidByText := true, laidKinds := [.data, .data, .data, .data], laidTests := true, laidLooks := .later }
def AddrBackUptoCardSaid : Prop := Claim7.holds Tryd.pinned (.plain (OpenSpec.upto addrBackSpec)) addrBackUptoCard

/-- THE SECOND FORM's CARD OF 'weirlaw4.AddrAgain'. -/
def addrAgainUptoCard : Claim7 := { stood := { row := addrAgainUptoRow, standIns := [], harness := (true, "ac147f9e94a3070efe29ea45b983ce35191834d2f83e9d62f8250587eaaccc2e"), looks := false }, kinds := [], alts := [], laidByText := true, laidKinds := [.data, .data, .data, .data], laidTests := true, laidLooks := .later }
def AddrAgainUptoCardSaid : Prop := Claim7.holds Tryd.pinned (.plain (OpenSpec.upto addrAgainSpec)) addrAgainUptoCard
end Rows
end Go.Proofs.YtddmmgcfanpmmaaDoor
