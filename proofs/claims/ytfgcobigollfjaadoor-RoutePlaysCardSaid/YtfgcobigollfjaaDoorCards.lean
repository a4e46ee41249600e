/-
  DERIVED. GIVEN WITH THE SEED: THE CARDS: each row of YtfgcobigollfjaaDoorRows.lean that lists a variable, with what it lists TIED to the program's text (the seventh form; the later family's looks); each row that meets fmt, with fmt's text TOLD by the authors' own Lean function (tested against real Go, not proved from fmt's source: count such statements apart). THE CARD IS WHAT COUNTS. Prove the row's statement (the work); the ties are given (YtfgcobigollfjaaDoorTie.lean); close each card by the builder's one call (the guide's Derived/Test/ToyasCard.lean, 'card_holds'). Laid BY PROGRAM, IN A SANDBOX (cutbox-door.mjs). By AI agents, Wed Nov 11 2026. No macro, syntax, notation, axiom, sorry.
-/
import Derived.Test.YtfgcobigollfjaaDoorRows
import GoSem.ClaimSeven
namespace Go.Proofs.YtfgcobigollfjaaDoor
namespace Rows

/-- THE TIED CARD OF 'weirlaw14.RouteFull'. -/
def routeFullCard : Claim7 := { stood := { row := routeFullRow, standIns := [], harness := (true, "c5978bd14b816e55c29204068f41b74d5ccfee58f590984c32eebb5080b15db6"), looks := false }, kinds := [], alts := [], laidByText := true, laidKinds := [.data], laidTests := true, laidLooks := .later }
def RouteFullCardSaid : Prop := Claim7.holds Tryd.pinned (.plain (OpenSpec.ofChange routeFullSpec)) routeFullCard

/-- THE TIED CARD OF 'weirlaw14.RouteLent'. -/
def routeLentCard : Claim7 := { stood := { row := routeLentRow, standIns := [], harness := (true, "c5978bd14b816e55c29204068f41b74d5ccfee58f590984c32eebb5080b15db6"), looks := false }, kinds := [], alts := [], laidByText := true, laidKinds := [.data], laidTests := true, laidLooks := .later }
def RouteLentCardSaid : Prop := Claim7.holds Tryd.pinned (.plain (OpenSpec.ofChange routeLentSpec)) routeLentCard

/-- THE TIED CARD OF 'weirlaw14.RouteLongest'. -/
def routeLongestCard : Claim7 := { stood := { row := routeLongestRow, standIns := [], harness := (true, "c5978bd14b816e55c29204068f41b74d5ccfee58f590984c32eebb5080b15db6"), looks := false }, kinds := [], alts := [], laidByText := true, laidKinds := [.data], laidTests := true, laidLooks := .later }
def RouteLongestCardSaid : Prop := Claim7.holds Tryd.pinned (.plain (OpenSpec.ofChange routeLongestSpec)) routeLongestCard

/-- THE TIED CARD OF 'weirlaw14.RouteWithin'. -/
def routeWithinCard : Claim7 := { stood := { row := routeWithinRow, standIns := [], harness := (true, "c5978bd14b816e55c29204068f41b74d5ccfee58f590984c32eebb5080b15db6"), looks := false }, kinds := [], alts := [], laidByText := true, laidKinds := [.data], laidTests := true, laidLooks := .later }
def RouteWithinCardSaid : Prop := Claim7.holds Tryd.pinned (.plain (OpenSpec.ofChange routeWithinSpec)) routeWithinCard

/-- THE TIED CARD OF 'weirlaw14.RoutePlays'. -/
def routePlaysCard : Claim7 := { stood := { row := routePlaysRow, standIns := [], harness := (true, "c5978bd14b816e55c29204068f41b74d5ccfee58f590984c32eebb5080b15db6"), looks := false }, kinds := [], alts := [], laidByText := true, laidKinds := [.data], laidTests := true, laidLooks := .later }
def RoutePlaysCardSaid : Prop := Claim7.holds Tryd.pinned (.plain (OpenSpec.ofChange routePlaysSpec)) routePlaysCard

/-- THE TIED CARD OF 'weirlaw14.RouteAny'. -/
def routeAnyCard : Claim7 := { stood := { row := routeAnyRow, standIns := [], harness := (true, "c5978bd14b816e55c29204068f41b74d5ccfee58f590984c32eebb5080b15db6"), looks := false }, kinds := [], alts := [], laidByText := true, laidKinds := [.data], laidTests := true, laidLooks := .later }
def RouteAnyCardSaid : Prop := Claim7.holds Tryd.pinned (.plain (OpenSpec.ofChange routeAnySpec)) routeAnyCard

/-- THE SECOND FORM's CARD OF 'weirlaw14.RouteFull'. -/
def routeFullUptoCard : Claim7 := { stood := { row := routeFullUptoRow, standIns := [], harness := (true, "c5978bd14b816e55c29204068f41b74d5ccfee58f590984c32eebb5080b15db6"), looks := false }, kinds := [], alts := [], laidByText := true, laidKinds := [.data], laidTests := true, laidLooks := .later }
def RouteFullUptoCardSaid : Prop := Claim7.holds Tryd.pinned (.plain (OpenSpec.upto routeFullSpec)) routeFullUptoCard

/-- THE SECOND FORM's CARD OF 'weirlaw14.RouteLent'. -/
def routeLentUptoCard : Claim7 := { stood := { row := routeLentUptoRow, standIns := [], harness := (true, "c5978bd14b816e55c29204068f41b74d5ccfee58f590984c32eebb5080b15db6"), looks := false }, kinds := [], alts := [], laidByText := true, laidKinds := [.data], laidTests := true, laidLooks := .later }
def RouteLentUptoCardSaid : Prop := Claim7.holds Tryd.pinned (.plain (OpenSpec.upto routeLentSpec)) routeLentUptoCard

/-- THE SECOND FORM's CARD OF 'weirlaw14.RouteLongest'. -/
def routeLongestUptoCard : Claim7 := { stood := { row := routeLongestUptoRow, standIns := [], harness := (true, "c5978bd14b816e55c29204068f41b74d5ccfee58f590984c32eebb5080b15db6"), looks := false }, kinds := [], alts := [], laidByText := true, laidKinds := [.data], laidTests := true, laidLooks := .later }
def RouteLongestUptoCardSaid : Prop := Claim7.holds Tryd.pinned (.plain (OpenSpec.upto routeLongestSpec)) routeLongestUptoCard

/-- THE SECOND FORM's CARD OF 'weirlaw14.RouteWithin'. -/
def routeWithinUptoCard : Claim7 := { stood := { row := routeWithinUptoRow, standIns := [], harness := (true, "c5978bd14b816e55c29204068f41b74d5ccfee58f590984c32eebb5080b15db6"), looks := false }, kinds := [], alts := [], laidByText := true, laidKinds := [.data], laidTests := true, laidLooks := .later }
def RouteWithinUptoCardSaid : Prop := Claim7.holds Tryd.pinned (.plain (OpenSpec.upto routeWithinSpec)) routeWithinUptoCard

/-- THE SECOND FORM's CARD OF 'weirlaw14.RoutePlays'. -/
def routePlaysUptoCard : Claim7 := { stood := { row := routePlaysUptoRow, standIns := [], harness := (true, "c5978bd14b816e55c29204068f41b74d5ccfee58f590984c32eebb5080b15db6"), looks := false }, kinds := [], alts := [], laidByText := true, laidKinds := [.data], laidTests := true, laidLooks := .later }
def RoutePlaysUptoCardSaid : Prop := Claim7.holds Tryd.pinned (.plain (OpenSpec.upto routePlaysSpec)) routePlaysUptoCard

/-- THE SECOND FORM's CARD OF 'weirlaw14.RouteAny'. -/
def routeAnyUptoCard : Claim7 := { stood := { row := routeAnyUptoRow, standIns := [], harness := (true, "c5978bd14b816e55c29204068f41b74d5ccfee58f590984c32eebb5080b15db6"), looks := false }, kinds := [], alts := [], laidByText := true, laidKinds := [.data], laidTests := true, laidLooks := .later }
def RouteAnyUptoCardSaid : Prop := Claim7.holds Tryd.pinned (.plain (OpenSpec.upto routeAnySpec)) routeAnyUptoCard
end Rows
end Go.Proofs.YtfgcobigollfjaaDoor
