/-
  NARROWER THAN 'FOR EVERY INPUT', by the rows' own cells (each row's printed sentence says how): RouteFull: laid · RouteLent: laid · RouteLongest: laid · RouteWithin: laid · RoutePlays: laid · RouteAny: laid.
  DERIVED. THE GIVEN ROWS OF THIS SEAT. 6 by the template 'for every input the law returns true; each argument reads behind the call as it read before'; 0 by the template 'total and deterministic' (their statements: YtfgcobigollfjaaDoorTotals.lean).
  GIVEN WITH THE SEED: the statements are not yours to turn. If you find one false, say at which input.
  Laid BY PROGRAM, IN A SANDBOX (cutbox-rows.mjs): the forced cells as the released guide's own fill.sh prints them over the translation f4edb1b42db5e34b… (all of the seat's roots in one cut). By AI agents, Wed Nov 11 2026. No macro, syntax, notation, axiom, sorry.
-/
import Derived.Test.YtfgcobigollfjaaDoorChecked
import GoSem.Claim
import GoSem.ClaimJoined
import GoSem.ClaimMapViews
import Derived.JoinedTies
import Derived.KernelRfl
namespace Go.Proofs.YtfgcobigollfjaaDoor
/- THE CELL 'sum', in the pinned program and in every row, IS THE sha256 OF THE DUMP (.gsa) THAT YtfgcobigollfjaaDoorProg.lean LOADS. Nothing in Lean hashes anything: it is a label: what it is worth is what the hold of that sum in a sandbox is worth. -/
noncomputable def Tryd.pinned : Pinned := { name := "ytfgcobigollfjaadoor", sum := "f4edb1b42db5e34b169b0f57997ef9cefb224504bc8ac1669675f76e77097cc8", checked := Tryd.checked }
namespace Rows
def none {H : Type} : Left H := { results := [], args := [] }

/- WHAT THE LISTED PACKAGE-LEVEL VARIABLES READ AS WHEN THE CALL BEGINS. Each datum BY PROGRAM (the guide's laid-datum.mjs) off the statement by which the dump's own 'gosem.cut.vars' lays the variable. In a bare row this is a premise. The card (YtfgcobigollfjaaDoorCards.lean) ties it to the program's text. -/
def laid_weir_addr_nets {H : Type} : DataW H := .agg [.agg [.lit (.int .i64 4), .agg [.lit (.int .u8 0), .lit (.int .u8 0), .lit (.int .u8 0), .lit (.int .u8 0), .lit (.int .u8 0), .lit (.int .u8 0), .lit (.int .u8 0), .lit (.int .u8 0), .lit (.int .u8 0), .lit (.int .u8 0), .lit (.int .u8 0), .lit (.int .u8 0), .lit (.int .u8 0), .lit (.int .u8 0), .lit (.int .u8 0), .lit (.int .u8 0)], .lit (.int .i64 32), .lit (.int .i64 1)], .agg [.lit (.int .i64 6), .agg [.lit (.int .u8 0), .lit (.int .u8 0), .lit (.int .u8 0), .lit (.int .u8 0), .lit (.int .u8 0), .lit (.int .u8 0), .lit (.int .u8 0), .lit (.int .u8 0), .lit (.int .u8 0), .lit (.int .u8 0), .lit (.int .u8 0), .lit (.int .u8 0), .lit (.int .u8 0), .lit (.int .u8 0), .lit (.int .u8 0), .lit (.int .u8 0)], .lit (.int .i64 128), .lit (.int .i64 1)], .agg [.lit (.int .i64 4), .agg [.lit (.int .u8 127), .lit (.int .u8 0), .lit (.int .u8 0), .lit (.int .u8 0), .lit (.int .u8 0), .lit (.int .u8 0), .lit (.int .u8 0), .lit (.int .u8 0), .lit (.int .u8 0), .lit (.int .u8 0), .lit (.int .u8 0), .lit (.int .u8 0), .lit (.int .u8 0), .lit (.int .u8 0), .lit (.int .u8 0), .lit (.int .u8 0)], .lit (.int .i64 8), .lit (.int .i64 2)], .agg [.lit (.int .i64 6), .agg [.lit (.int .u8 0), .lit (.int .u8 0), .lit (.int .u8 0), .lit (.int .u8 0), .lit (.int .u8 0), .lit (.int .u8 0), .lit (.int .u8 0), .lit (.int .u8 0), .lit (.int .u8 0), .lit (.int .u8 0), .lit (.int .u8 0), .lit (.int .u8 0), .lit (.int .u8 0), .lit (.int .u8 0), .lit (.int .u8 0), .lit (.int .u8 1)], .lit (.int .i64 128), .lit (.int .i64 2)], .agg [.lit (.int .i64 4), .agg [.lit (.int .u8 224), .lit (.int .u8 0), .lit (.int .u8 0), .lit (.int .u8 0), .lit (.int .u8 0), .lit (.int .u8 0), .lit (.int .u8 0), .lit (.int .u8 0), .lit (.int .u8 0), .lit (.int .u8 0), .lit (.int .u8 0), .lit (.int .u8 0), .lit (.int .u8 0), .lit (.int .u8 0), .lit (.int .u8 0), .lit (.int .u8 0)], .lit (.int .i64 4), .lit (.int .i64 3)], .agg [.lit (.int .i64 6), .agg [.lit (.int .u8 255), .lit (.int .u8 0), .lit (.int .u8 0), .lit (.int .u8 0), .lit (.int .u8 0), .lit (.int .u8 0), .lit (.int .u8 0), .lit (.int .u8 0), .lit (.int .u8 0), .lit (.int .u8 0), .lit (.int .u8 0), .lit (.int .u8 0), .lit (.int .u8 0), .lit (.int .u8 0), .lit (.int .u8 0), .lit (.int .u8 0)], .lit (.int .i64 8), .lit (.int .i64 3)], .agg [.lit (.int .i64 4), .agg [.lit (.int .u8 169), .lit (.int .u8 254), .lit (.int .u8 0), .lit (.int .u8 0), .lit (.int .u8 0), .lit (.int .u8 0), .lit (.int .u8 0), .lit (.int .u8 0), .lit (.int .u8 0), .lit (.int .u8 0), .lit (.int .u8 0), .lit (.int .u8 0), .lit (.int .u8 0), .lit (.int .u8 0), .lit (.int .u8 0), .lit (.int .u8 0)], .lit (.int .i64 16), .lit (.int .i64 4)], .agg [.lit (.int .i64 6), .agg [.lit (.int .u8 254), .lit (.int .u8 128), .lit (.int .u8 0), .lit (.int .u8 0), .lit (.int .u8 0), .lit (.int .u8 0), .lit (.int .u8 0), .lit (.int .u8 0), .lit (.int .u8 0), .lit (.int .u8 0), .lit (.int .u8 0), .lit (.int .u8 0), .lit (.int .u8 0), .lit (.int .u8 0), .lit (.int .u8 0), .lit (.int .u8 0)], .lit (.int .i64 10), .lit (.int .i64 4)], .agg [.lit (.int .i64 4), .agg [.lit (.int .u8 255), .lit (.int .u8 255), .lit (.int .u8 255), .lit (.int .u8 255), .lit (.int .u8 0), .lit (.int .u8 0), .lit (.int .u8 0), .lit (.int .u8 0), .lit (.int .u8 0), .lit (.int .u8 0), .lit (.int .u8 0), .lit (.int .u8 0), .lit (.int .u8 0), .lit (.int .u8 0), .lit (.int .u8 0), .lit (.int .u8 0)], .lit (.int .i64 32), .lit (.int .i64 5)], .agg [.lit (.int .i64 4), .agg [.lit (.int .u8 0), .lit (.int .u8 0), .lit (.int .u8 0), .lit (.int .u8 0), .lit (.int .u8 0), .lit (.int .u8 0), .lit (.int .u8 0), .lit (.int .u8 0), .lit (.int .u8 0), .lit (.int .u8 0), .lit (.int .u8 0), .lit (.int .u8 0), .lit (.int .u8 0), .lit (.int .u8 0), .lit (.int .u8 0), .lit (.int .u8 0)], .lit (.int .i64 8), .lit (.int .i64 6)], .agg [.lit (.int .i64 4), .agg [.lit (.int .u8 240), .lit (.int .u8 0), .lit (.int .u8 0), .lit (.int .u8 0), .lit (.int .u8 0), .lit (.int .u8 0), .lit (.int .u8 0), .lit (.int .u8 0), .lit (.int .u8 0), .lit (.int .u8 0), .lit (.int .u8 0), .lit (.int .u8 0), .lit (.int .u8 0), .lit (.int .u8 0), .lit (.int .u8 0), .lit (.int .u8 0)], .lit (.int .i64 4), .lit (.int .i64 6)], .agg [.lit (.int .i64 6), .agg [.lit (.int .u8 0), .lit (.int .u8 0), .lit (.int .u8 0), .lit (.int .u8 0), .lit (.int .u8 0), .lit (.int .u8 0), .lit (.int .u8 0), .lit (.int .u8 0), .lit (.int .u8 0), .lit (.int .u8 0), .lit (.int .u8 0), .lit (.int .u8 0), .lit (.int .u8 0), .lit (.int .u8 0), .lit (.int .u8 0), .lit (.int .u8 0)], .lit (.int .i64 8), .lit (.int .i64 6)]]

/-- 'weirlaw14.RouteFull': WHATEVER THE INPUT: true; the input reads as it did. -/
def routeFullSpec : ChangeSpec := { name := "routeFull", fn := fun _ => fun
  | [d] => { results := [.lit (.bool true)], args := [d] }
  | _ => none }
def routeFullRow : OpenClaim := { program := "ytfgcobigollfjaadoor", sum := "f4edb1b42db5e34b169b0f57997ef9cefb224504bc8ac1669675f76e77097cc8", func := "weir/weirlaw14.RouteFull", spec := "routeFull", unfollowed := true, recurses := true, named := ["weir/addr.nets"], plainKeys := false, apart := false, laid := [("weir/addr.nets", laid_weir_addr_nets)] }
def RouteFullSaid : Prop := routeFullRow.holds Tryd.pinned (OpenSpec.ofChange routeFullSpec)

/-- ITS FALSE NEIGHBOUR: 'it returns false'. Refute it at one input. -/
def routeFullWrong : ChangeSpec := { name := "routeFull", fn := fun _ => fun
  | [d] => { results := [.lit (.bool false)], args := [d] }
  | _ => none }
def RouteFullWrongFalsely : Prop := routeFullRow.holds Tryd.pinned (OpenSpec.ofChange routeFullWrong)

/-- 'weirlaw14.RouteLent': WHATEVER THE INPUT: true; the input reads as it did. -/
def routeLentSpec : ChangeSpec := { name := "routeLent", fn := fun _ => fun
  | [d1, d2] => { results := [.lit (.bool true)], args := [d1, d2] }
  | _ => none }
def routeLentRow : OpenClaim := { program := "ytfgcobigollfjaadoor", sum := "f4edb1b42db5e34b169b0f57997ef9cefb224504bc8ac1669675f76e77097cc8", func := "weir/weirlaw14.RouteLent", spec := "routeLent", unfollowed := true, recurses := true, named := ["weir/addr.nets"], plainKeys := false, apart := false, laid := [("weir/addr.nets", laid_weir_addr_nets)] }
def RouteLentSaid : Prop := routeLentRow.holds Tryd.pinned (OpenSpec.ofChange routeLentSpec)

/-- ITS FALSE NEIGHBOUR: 'it returns false'. Refute it at one input. -/
def routeLentWrong : ChangeSpec := { name := "routeLent", fn := fun _ => fun
  | [d1, d2] => { results := [.lit (.bool false)], args := [d1, d2] }
  | _ => none }
def RouteLentWrongFalsely : Prop := routeLentRow.holds Tryd.pinned (OpenSpec.ofChange routeLentWrong)

/-- 'weirlaw14.RouteLongest': WHATEVER THE INPUT: true; the input reads as it did. -/
def routeLongestSpec : ChangeSpec := { name := "routeLongest", fn := fun _ => fun
  | [d1, d2] => { results := [.lit (.bool true)], args := [d1, d2] }
  | _ => none }
def routeLongestRow : OpenClaim := { program := "ytfgcobigollfjaadoor", sum := "f4edb1b42db5e34b169b0f57997ef9cefb224504bc8ac1669675f76e77097cc8", func := "weir/weirlaw14.RouteLongest", spec := "routeLongest", unfollowed := true, recurses := true, named := ["weir/addr.nets"], plainKeys := false, apart := false, laid := [("weir/addr.nets", laid_weir_addr_nets)] }
def RouteLongestSaid : Prop := routeLongestRow.holds Tryd.pinned (OpenSpec.ofChange routeLongestSpec)

/-- ITS FALSE NEIGHBOUR: 'it returns false'. Refute it at one input. -/
def routeLongestWrong : ChangeSpec := { name := "routeLongest", fn := fun _ => fun
  | [d1, d2] => { results := [.lit (.bool false)], args := [d1, d2] }
  | _ => none }
def RouteLongestWrongFalsely : Prop := routeLongestRow.holds Tryd.pinned (OpenSpec.ofChange routeLongestWrong)

/-- 'weirlaw14.RouteWithin': WHATEVER THE INPUT: true; the input reads as it did. -/
def routeWithinSpec : ChangeSpec := { name := "routeWithin", fn := fun _ => fun
  | [d1, d2, d3] => { results := [.lit (.bool true)], args := [d1, d2, d3] }
  | _ => none }
def routeWithinRow : OpenClaim := { program := "ytfgcobigollfjaadoor", sum := "f4edb1b42db5e34b169b0f57997ef9cefb224504bc8ac1669675f76e77097cc8", func := "weir/weirlaw14.RouteWithin", spec := "routeWithin", unfollowed := true, recurses := true, named := ["weir/addr.nets"], plainKeys := false, apart := false, laid := [("weir/addr.nets", laid_weir_addr_nets)] }
def RouteWithinSaid : Prop := routeWithinRow.holds Tryd.pinned (OpenSpec.ofChange routeWithinSpec)

/-- ITS FALSE NEIGHBOUR: 'it returns false'. Refute it at one input. -/
def routeWithinWrong : ChangeSpec := { name := "routeWithin", fn := fun _ => fun
  | [d1, d2, d3] => { results := [.lit (.bool false)], args := [d1, d2, d3] }
  | _ => none }
def RouteWithinWrongFalsely : Prop := routeWithinRow.holds Tryd.pinned (OpenSpec.ofChange routeWithinWrong)

/-- 'weirlaw14.RoutePlays': WHATEVER THE INPUT: true; the input reads as it did. -/
def routePlaysSpec : ChangeSpec := { name := "routePlays", fn := fun _ => fun
  | [d] => { results := [.lit (.bool true)], args := [d] }
  | _ => none }
def routePlaysRow : OpenClaim := { program := "ytfgcobigollfjaadoor", sum := "f4edb1b42db5e34b169b0f57997ef9cefb224504bc8ac1669675f76e77097cc8", func := "weir/weirlaw14.RoutePlays", spec := "routePlays", unfollowed := true, recurses := true, named := ["weir/addr.nets"], plainKeys := false, apart := false, laid := [("weir/addr.nets", laid_weir_addr_nets)] }
def RoutePlaysSaid : Prop := routePlaysRow.holds Tryd.pinned (OpenSpec.ofChange routePlaysSpec)

/-- ITS FALSE NEIGHBOUR: 'it returns false'. Refute it at one input. -/
def routePlaysWrong : ChangeSpec := { name := "routePlays", fn := fun _ => fun
  | [d] => { results := [.lit (.bool false)], args := [d] }
  | _ => none }
def RoutePlaysWrongFalsely : Prop := routePlaysRow.holds Tryd.pinned (OpenSpec.ofChange routePlaysWrong)

/-- 'weirlaw14.RouteAny': WHATEVER THE INPUT: true; the input reads as it did. -/
def routeAnySpec : ChangeSpec := { name := "routeAny", fn := fun _ => fun
  | [d1, d2, d3] => { results := [.lit (.bool true)], args := [d1, d2, d3] }
  | _ => none }
def routeAnyRow : OpenClaim := { program := "ytfgcobigollfjaadoor", sum := "f4edb1b42db5e34b169b0f57997ef9cefb224504bc8ac1669675f76e77097cc8", func := "weir/weirlaw14.RouteAny", spec := "routeAny", unfollowed := true, recurses := true, named := ["weir/addr.nets"], plainKeys := false, apart := false, laid := [("weir/addr.nets", laid_weir_addr_nets)] }
def RouteAnySaid : Prop := routeAnyRow.holds Tryd.pinned (OpenSpec.ofChange routeAnySpec)

/-- ITS FALSE NEIGHBOUR: 'it returns false'. Refute it at one input. -/
def routeAnyWrong : ChangeSpec := { name := "routeAny", fn := fun _ => fun
  | [d1, d2, d3] => { results := [.lit (.bool false)], args := [d1, d2, d3] }
  | _ => none }
def RouteAnyWrongFalsely : Prop := routeAnyRow.holds Tryd.pinned (OpenSpec.ofChange routeAnyWrong)

/- THE SECOND FORM. 'bulk': how many values and letters a reading holds, each counted each time it is reached (what is shared counts as often as it is met; a slice's spare places count too). A statement '..UptoSaid' is the law's where the arguments, and the package variables that the reading takes, are together of bulk at most 1048576: NARROWER than '..Said'. Prove '..Said' where nothing that the law and all that it calls make is longer than what came in: it says more and counts as full. Else prove '..UptoSaid'. A law counts once. -/
mutual
def uptoBulk {H : Type} : DataW H → Nat
  | .lit (.string bytes) => bytes.length + 1
  | .lit _ => 1
  | .nil => 1
  | .ptr d => uptoBulk d + 1
  | .slice elems spare => uptoBulkAll elems + uptoBulkAll spare + 1
  | .agg parts => uptoBulkAll parts + 1
  | .iface _ d => uptoBulk d + 1
  | .map entries => uptoBulkEntries entries + 1
  | .held _ => 1
def uptoBulkAll {H : Type} : List (DataW H) → Nat
  | [] => 0
  | d :: r => uptoBulk d + uptoBulkAll r
def uptoBulkEntries {H : Type} : List (Lit × DataW H) → Nat
  | [] => 0
  | x :: r => uptoBulkEntry x + uptoBulkEntries r
def uptoBulkEntry {H : Type} : Lit × DataW H → Nat
  | (.string bytes, d) => bytes.length + uptoBulk d + 1
  | (_, d) => uptoBulk d + 1
 end
def uptoSmall : (H : Type) → List (DataW H) → Bool := fun _ ds => decide (uptoBulkAll ds ≤ 1048576)
def OpenSpec.upto (s : _root_.Go.ChangeSpec) : _root_.Go.OpenSpec := { _root_.Go.OpenSpec.ofChange s with cond := some uptoSmall }

/-- 'weirlaw14.RouteFull', WHERE WHAT IT READS IS OF BULK AT MOST 1048576: true; the input reads as it did. -/
def routeFullUptoRow : OpenClaim := { program := "ytfgcobigollfjaadoor", sum := "f4edb1b42db5e34b169b0f57997ef9cefb224504bc8ac1669675f76e77097cc8", func := "weir/weirlaw14.RouteFull", spec := "routeFull", unfollowed := true, recurses := true, named := ["weir/addr.nets"], plainKeys := false, apart := false, laid := [("weir/addr.nets", laid_weir_addr_nets)], narrowed := true }
def RouteFullUptoSaid : Prop := routeFullUptoRow.holds Tryd.pinned (OpenSpec.upto routeFullSpec)

/-- 'weirlaw14.RouteLent', WHERE WHAT IT READS IS OF BULK AT MOST 1048576: true; the input reads as it did. -/
def routeLentUptoRow : OpenClaim := { program := "ytfgcobigollfjaadoor", sum := "f4edb1b42db5e34b169b0f57997ef9cefb224504bc8ac1669675f76e77097cc8", func := "weir/weirlaw14.RouteLent", spec := "routeLent", unfollowed := true, recurses := true, named := ["weir/addr.nets"], plainKeys := false, apart := false, laid := [("weir/addr.nets", laid_weir_addr_nets)], narrowed := true }
def RouteLentUptoSaid : Prop := routeLentUptoRow.holds Tryd.pinned (OpenSpec.upto routeLentSpec)

/-- 'weirlaw14.RouteLongest', WHERE WHAT IT READS IS OF BULK AT MOST 1048576: true; the input reads as it did. -/
def routeLongestUptoRow : OpenClaim := { program := "ytfgcobigollfjaadoor", sum := "f4edb1b42db5e34b169b0f57997ef9cefb224504bc8ac1669675f76e77097cc8", func := "weir/weirlaw14.RouteLongest", spec := "routeLongest", unfollowed := true, recurses := true, named := ["weir/addr.nets"], plainKeys := false, apart := false, laid := [("weir/addr.nets", laid_weir_addr_nets)], narrowed := true }
def RouteLongestUptoSaid : Prop := routeLongestUptoRow.holds Tryd.pinned (OpenSpec.upto routeLongestSpec)

/-- 'weirlaw14.RouteWithin', WHERE WHAT IT READS IS OF BULK AT MOST 1048576: true; the input reads as it did. -/
def routeWithinUptoRow : OpenClaim := { program := "ytfgcobigollfjaadoor", sum := "f4edb1b42db5e34b169b0f57997ef9cefb224504bc8ac1669675f76e77097cc8", func := "weir/weirlaw14.RouteWithin", spec := "routeWithin", unfollowed := true, recurses := true, named := ["weir/addr.nets"], plainKeys := false, apart := false, laid := [("weir/addr.nets", laid_weir_addr_nets)], narrowed := true }
def RouteWithinUptoSaid : Prop := routeWithinUptoRow.holds Tryd.pinned (OpenSpec.upto routeWithinSpec)

/-- 'weirlaw14.RoutePlays', WHERE WHAT IT READS IS OF BULK AT MOST 1048576: true; the input reads as it did. -/
def routePlaysUptoRow : OpenClaim := { program := "ytfgcobigollfjaadoor", sum := "f4edb1b42db5e34b169b0f57997ef9cefb224504bc8ac1669675f76e77097cc8", func := "weir/weirlaw14.RoutePlays", spec := "routePlays", unfollowed := true, recurses := true, named := ["weir/addr.nets"], plainKeys := false, apart := false, laid := [("weir/addr.nets", laid_weir_addr_nets)], narrowed := true }
def RoutePlaysUptoSaid : Prop := routePlaysUptoRow.holds Tryd.pinned (OpenSpec.upto routePlaysSpec)

/-- 'weirlaw14.RouteAny', WHERE WHAT IT READS IS OF BULK AT MOST 1048576: true; the input reads as it did. -/
def routeAnyUptoRow : OpenClaim := { program := "ytfgcobigollfjaadoor", sum := "f4edb1b42db5e34b169b0f57997ef9cefb224504bc8ac1669675f76e77097cc8", func := "weir/weirlaw14.RouteAny", spec := "routeAny", unfollowed := true, recurses := true, named := ["weir/addr.nets"], plainKeys := false, apart := false, laid := [("weir/addr.nets", laid_weir_addr_nets)], narrowed := true }
def RouteAnyUptoSaid : Prop := routeAnyUptoRow.holds Tryd.pinned (OpenSpec.upto routeAnySpec)

end Rows
end Go.Proofs.YtfgcobigollfjaaDoor
