/-
  No cell of these rows narrows 'for every input' (looked for: loops, veiled, ifaces, maps, wideKeys, modest, calm, conditions, laid).
  DERIVED. THE GIVEN ROWS OF THIS SEAT. 11 by the template 'for every input the law returns true; each argument reads behind the call as it read before'; 0 by the template 'total and deterministic' (their statements: YtgddbpmfendaeaaTotals.lean).
  GIVEN WITH THE SEED: the statements are not yours to turn. If you find one false, say at which input.
  Laid BY PROGRAM, IN A SANDBOX (cutbox-rows.mjs): the forced cells as the released guide's own fill.sh prints them over the translation cf303efa9c3e9f0a… (all of the seat's roots in one cut). By AI agents, Wed Nov 11 2026. No macro, syntax, notation, axiom, sorry.
-/
import Derived.Test.YtgddbpmfendaeaaChecked
import GoSem.Claim
import GoSem.ClaimJoined
import GoSem.ClaimMapViews
import Derived.JoinedTies
import Derived.KernelRfl
namespace Go.Proofs.Ytgddbpmfendaeaa
/- THE CELL 'sum', in the pinned program and in every row, IS THE sha256 OF THE DUMP (.gsa) THAT YtgddbpmfendaeaaProg.lean LOADS. Nothing in Lean hashes anything: it is a label: what it is worth is what the hold of that sum in a sandbox is worth. -/
noncomputable def Try.pinned : Pinned := { name := "ytgddbpmfendaeaa", sum := "cf303efa9c3e9f0a898c8935b8f09c81f1962c67b4e570a5439bbc02a4163b29", checked := Try.checked }
namespace Rows
def none {H : Type} : Left H := { results := [], args := [] }

/-- 'weirlaw4.AddrOrder': WHATEVER THE INPUT: true; the input reads as it did. -/
def addrOrderSpec : ChangeSpec := { name := "addrOrder", fn := fun _ => fun
  | [d1, d2, d3] => { results := [.lit (.bool true)], args := [d1, d2, d3] }
  | _ => none }
def addrOrderRow : OpenClaim := { program := "ytgddbpmfendaeaa", sum := "cf303efa9c3e9f0a898c8935b8f09c81f1962c67b4e570a5439bbc02a4163b29", func := "weir/weirlaw4.AddrOrder", spec := "addrOrder", apart := false }
def AddrOrderSaid : Prop := addrOrderRow.holds Try.pinned (OpenSpec.ofChange addrOrderSpec)

/-- ITS FALSE NEIGHBOUR: 'it returns false'. Refute it at one input. -/
def addrOrderWrong : ChangeSpec := { name := "addrOrder", fn := fun _ => fun
  | [d1, d2, d3] => { results := [.lit (.bool false)], args := [d1, d2, d3] }
  | _ => none }
def AddrOrderWrongFalsely : Prop := addrOrderRow.holds Try.pinned (OpenSpec.ofChange addrOrderWrong)

/-- 'weirlaw18.QueueFair': WHATEVER THE INPUT: true; the input reads as it did. -/
def queueFairSpec : ChangeSpec := { name := "queueFair", fn := fun _ => fun
  | [d1, d2, d3] => { results := [.lit (.bool true)], args := [d1, d2, d3] }
  | _ => none }
def queueFairRow : OpenClaim := { program := "ytgddbpmfendaeaa", sum := "cf303efa9c3e9f0a898c8935b8f09c81f1962c67b4e570a5439bbc02a4163b29", func := "weir/weirlaw18.QueueFair", spec := "queueFair", unfollowed := true, recurses := true, apart := false }
def QueueFairSaid : Prop := queueFairRow.holds Try.pinned (OpenSpec.ofChange queueFairSpec)

/-- ITS FALSE NEIGHBOUR: 'it returns false'. Refute it at one input. -/
def queueFairWrong : ChangeSpec := { name := "queueFair", fn := fun _ => fun
  | [d1, d2, d3] => { results := [.lit (.bool false)], args := [d1, d2, d3] }
  | _ => none }
def QueueFairWrongFalsely : Prop := queueFairRow.holds Try.pinned (OpenSpec.ofChange queueFairWrong)

/-- 'weirlaw18.QueueEven': WHATEVER THE INPUT: true; the input reads as it did. -/
def queueEvenSpec : ChangeSpec := { name := "queueEven", fn := fun _ => fun
  | [d1, d2, d3] => { results := [.lit (.bool true)], args := [d1, d2, d3] }
  | _ => none }
def queueEvenRow : OpenClaim := { program := "ytgddbpmfendaeaa", sum := "cf303efa9c3e9f0a898c8935b8f09c81f1962c67b4e570a5439bbc02a4163b29", func := "weir/weirlaw18.QueueEven", spec := "queueEven", unfollowed := true, recurses := true, apart := false }
def QueueEvenSaid : Prop := queueEvenRow.holds Try.pinned (OpenSpec.ofChange queueEvenSpec)

/-- ITS FALSE NEIGHBOUR: 'it returns false'. Refute it at one input. -/
def queueEvenWrong : ChangeSpec := { name := "queueEven", fn := fun _ => fun
  | [d1, d2, d3] => { results := [.lit (.bool false)], args := [d1, d2, d3] }
  | _ => none }
def QueueEvenWrongFalsely : Prop := queueEvenRow.holds Try.pinned (OpenSpec.ofChange queueEvenWrong)

/-- 'weirlaw18.QueueNeverIdle': WHATEVER THE INPUT: true; the input reads as it did. -/
def queueNeverIdleSpec : ChangeSpec := { name := "queueNeverIdle", fn := fun _ => fun
  | [d1, d2] => { results := [.lit (.bool true)], args := [d1, d2] }
  | _ => none }
def queueNeverIdleRow : OpenClaim := { program := "ytgddbpmfendaeaa", sum := "cf303efa9c3e9f0a898c8935b8f09c81f1962c67b4e570a5439bbc02a4163b29", func := "weir/weirlaw18.QueueNeverIdle", spec := "queueNeverIdle", unfollowed := true, recurses := true, apart := false }
def QueueNeverIdleSaid : Prop := queueNeverIdleRow.holds Try.pinned (OpenSpec.ofChange queueNeverIdleSpec)

/-- ITS FALSE NEIGHBOUR: 'it returns false'. Refute it at one input. -/
def queueNeverIdleWrong : ChangeSpec := { name := "queueNeverIdle", fn := fun _ => fun
  | [d1, d2] => { results := [.lit (.bool false)], args := [d1, d2] }
  | _ => none }
def QueueNeverIdleWrongFalsely : Prop := queueNeverIdleRow.holds Try.pinned (OpenSpec.ofChange queueNeverIdleWrong)

/-- 'weirlaw18.QueueTurns': WHATEVER THE INPUT: true; the input reads as it did. -/
def queueTurnsSpec : ChangeSpec := { name := "queueTurns", fn := fun _ => fun
  | [d1, d2] => { results := [.lit (.bool true)], args := [d1, d2] }
  | _ => none }
def queueTurnsRow : OpenClaim := { program := "ytgddbpmfendaeaa", sum := "cf303efa9c3e9f0a898c8935b8f09c81f1962c67b4e570a5439bbc02a4163b29", func := "weir/weirlaw18.QueueTurns", spec := "queueTurns", unfollowed := true, recurses := true, apart := false }
def QueueTurnsSaid : Prop := queueTurnsRow.holds Try.pinned (OpenSpec.ofChange queueTurnsSpec)

/-- ITS FALSE NEIGHBOUR: 'it returns false'. Refute it at one input. -/
def queueTurnsWrong : ChangeSpec := { name := "queueTurns", fn := fun _ => fun
  | [d1, d2] => { results := [.lit (.bool false)], args := [d1, d2] }
  | _ => none }
def QueueTurnsWrongFalsely : Prop := queueTurnsRow.holds Try.pinned (OpenSpec.ofChange queueTurnsWrong)

/-- 'weirlaw18.QueuePeeks': WHATEVER THE INPUT: true; the input reads as it did. -/
def queuePeeksSpec : ChangeSpec := { name := "queuePeeks", fn := fun _ => fun
  | [d1, d2] => { results := [.lit (.bool true)], args := [d1, d2] }
  | _ => none }
def queuePeeksRow : OpenClaim := { program := "ytgddbpmfendaeaa", sum := "cf303efa9c3e9f0a898c8935b8f09c81f1962c67b4e570a5439bbc02a4163b29", func := "weir/weirlaw18.QueuePeeks", spec := "queuePeeks", unfollowed := true, recurses := true, apart := false }
def QueuePeeksSaid : Prop := queuePeeksRow.holds Try.pinned (OpenSpec.ofChange queuePeeksSpec)

/-- ITS FALSE NEIGHBOUR: 'it returns false'. Refute it at one input. -/
def queuePeeksWrong : ChangeSpec := { name := "queuePeeks", fn := fun _ => fun
  | [d1, d2] => { results := [.lit (.bool false)], args := [d1, d2] }
  | _ => none }
def QueuePeeksWrongFalsely : Prop := queuePeeksRow.holds Try.pinned (OpenSpec.ofChange queuePeeksWrong)

/-- 'weirlaw18.QueuePlays': WHATEVER THE INPUT: true; the input reads as it did. -/
def queuePlaysSpec : ChangeSpec := { name := "queuePlays", fn := fun _ => fun
  | [d1, d2] => { results := [.lit (.bool true)], args := [d1, d2] }
  | _ => none }
def queuePlaysRow : OpenClaim := { program := "ytgddbpmfendaeaa", sum := "cf303efa9c3e9f0a898c8935b8f09c81f1962c67b4e570a5439bbc02a4163b29", func := "weir/weirlaw18.QueuePlays", spec := "queuePlays", unfollowed := true, recurses := true, apart := false }
def QueuePlaysSaid : Prop := queuePlaysRow.holds Try.pinned (OpenSpec.ofChange queuePlaysSpec)

/-- ITS FALSE NEIGHBOUR: 'it returns false'. Refute it at one input. -/
def queuePlaysWrong : ChangeSpec := { name := "queuePlays", fn := fun _ => fun
  | [d1, d2] => { results := [.lit (.bool false)], args := [d1, d2] }
  | _ => none }
def QueuePlaysWrongFalsely : Prop := queuePlaysRow.holds Try.pinned (OpenSpec.ofChange queuePlaysWrong)

/-- 'weirlaw18.QueueMakes': WHATEVER THE INPUT: true; the input reads as it did. -/
def queueMakesSpec : ChangeSpec := { name := "queueMakes", fn := fun _ => fun
  | [d] => { results := [.lit (.bool true)], args := [d] }
  | _ => none }
def queueMakesRow : OpenClaim := { program := "ytgddbpmfendaeaa", sum := "cf303efa9c3e9f0a898c8935b8f09c81f1962c67b4e570a5439bbc02a4163b29", func := "weir/weirlaw18.QueueMakes", spec := "queueMakes", unfollowed := true, recurses := true, apart := false }
def QueueMakesSaid : Prop := queueMakesRow.holds Try.pinned (OpenSpec.ofChange queueMakesSpec)

/-- ITS FALSE NEIGHBOUR: 'it returns false'. Refute it at one input. -/
def queueMakesWrong : ChangeSpec := { name := "queueMakes", fn := fun _ => fun
  | [d] => { results := [.lit (.bool false)], args := [d] }
  | _ => none }
def QueueMakesWrongFalsely : Prop := queueMakesRow.holds Try.pinned (OpenSpec.ofChange queueMakesWrong)

/-- 'weirlaw18.QueueLines': WHATEVER THE INPUT: true; the input reads as it did. -/
def queueLinesSpec : ChangeSpec := { name := "queueLines", fn := fun _ => fun
  | [d1, d2] => { results := [.lit (.bool true)], args := [d1, d2] }
  | _ => none }
def queueLinesRow : OpenClaim := { program := "ytgddbpmfendaeaa", sum := "cf303efa9c3e9f0a898c8935b8f09c81f1962c67b4e570a5439bbc02a4163b29", func := "weir/weirlaw18.QueueLines", spec := "queueLines", unfollowed := true, recurses := true, apart := false }
def QueueLinesSaid : Prop := queueLinesRow.holds Try.pinned (OpenSpec.ofChange queueLinesSpec)

/-- ITS FALSE NEIGHBOUR: 'it returns false'. Refute it at one input. -/
def queueLinesWrong : ChangeSpec := { name := "queueLines", fn := fun _ => fun
  | [d1, d2] => { results := [.lit (.bool false)], args := [d1, d2] }
  | _ => none }
def QueueLinesWrongFalsely : Prop := queueLinesRow.holds Try.pinned (OpenSpec.ofChange queueLinesWrong)

/-- 'weirlaw18.QueueStays': WHATEVER THE INPUT: true; the input reads as it did. -/
def queueStaysSpec : ChangeSpec := { name := "queueStays", fn := fun _ => fun
  | [d1, d2] => { results := [.lit (.bool true)], args := [d1, d2] }
  | _ => none }
def queueStaysRow : OpenClaim := { program := "ytgddbpmfendaeaa", sum := "cf303efa9c3e9f0a898c8935b8f09c81f1962c67b4e570a5439bbc02a4163b29", func := "weir/weirlaw18.QueueStays", spec := "queueStays", unfollowed := true, recurses := true, apart := false }
def QueueStaysSaid : Prop := queueStaysRow.holds Try.pinned (OpenSpec.ofChange queueStaysSpec)

/-- ITS FALSE NEIGHBOUR: 'it returns false'. Refute it at one input. -/
def queueStaysWrong : ChangeSpec := { name := "queueStays", fn := fun _ => fun
  | [d1, d2] => { results := [.lit (.bool false)], args := [d1, d2] }
  | _ => none }
def QueueStaysWrongFalsely : Prop := queueStaysRow.holds Try.pinned (OpenSpec.ofChange queueStaysWrong)

/-- 'weirlaw18.QueueLent': WHATEVER THE INPUT: true; the input reads as it did. -/
def queueLentSpec : ChangeSpec := { name := "queueLent", fn := fun _ => fun
  | [d1, d2, d3, d4] => { results := [.lit (.bool true)], args := [d1, d2, d3, d4] }
  | _ => none }
def queueLentRow : OpenClaim := { program := "ytgddbpmfendaeaa", sum := "cf303efa9c3e9f0a898c8935b8f09c81f1962c67b4e570a5439bbc02a4163b29", func := "weir/weirlaw18.QueueLent", spec := "queueLent", unfollowed := true, recurses := true, apart := false }
def QueueLentSaid : Prop := queueLentRow.holds Try.pinned (OpenSpec.ofChange queueLentSpec)

/-- ITS FALSE NEIGHBOUR: 'it returns false'. Refute it at one input. -/
def queueLentWrong : ChangeSpec := { name := "queueLent", fn := fun _ => fun
  | [d1, d2, d3, d4] => { results := [.lit (.bool false)], args := [d1, d2, d3, d4] }
  | _ => none }
def QueueLentWrongFalsely : Prop := queueLentRow.holds Try.pinned (OpenSpec.ofChange queueLentWrong)

/- THE SECOND FORM. 'bulk': how many values and letters a reading holds, each counted each time it is reached (what is shared counts as often as it is met; a slice's spare places count too). A statement '..UptoSaid' is the law's where the arguments, and the package variables that the reading takes, are together of bulk at most 1048576: NARROWER than '..Said'. Prove '..Said' where nothing that the law and all that it calls make is longer than what came in: it says more and counts as full. Else prove '..UptoSaid'. A law counts once. -/
mutual
def uptoBulk {H : Type} : DataW H → Nat
  | .lit (.string bytes) => bytes.length + 1
  | .lit _ => 1
  | .nil => 1
  | .ptr d => uptoBulk d + 1
  | .slice elems spare => uptoBulkAll elems + uptoBulkAll spare + 1
  | .agg parts => uptoBulkAll parts + 1
  | .iface _ d => uptoBulk d + 1
  | .map entries => uptoBulkEntries entries + 1
  | .held _ => 1
def uptoBulkAll {H : Type} : List (DataW H) → Nat
  | [] => 0
  | d :: r => uptoBulk d + uptoBulkAll r
def uptoBulkEntries {H : Type} : List (Lit × DataW H) → Nat
  | [] => 0
  | x :: r => uptoBulkEntry x + uptoBulkEntries r
def uptoBulkEntry {H : Type} : Lit × DataW H → Nat
  | (.string bytes, d) => bytes.length + uptoBulk d + 1
  | (_, d) => uptoBulk d + 1
 end
def uptoSmall : (H : Type) → List (DataW H) → Bool := fun _ ds => decide (uptoBulkAll ds ≤ 1048576)
def OpenSpec.upto (s : _root_.Go.ChangeSpec) : _root_.Go.OpenSpec := { _root_.Go.OpenSpec.ofChange s with cond := some uptoSmall }

/-- 'weirlaw4.AddrOrder', WHERE WHAT IT READS IS OF BULK AT MOST 1048576: true; the input reads as it did. -/
def addrOrderUptoRow : OpenClaim := { program := "ytgddbpmfendaeaa", sum := "cf303efa9c3e9f0a898c8935b8f09c81f1962c67b4e570a5439bbc02a4163b29", func := "weir/weirlaw4.AddrOrder", spec := "addrOrder", apart := false, narrowed := true }
def AddrOrderUptoSaid : Prop := addrOrderUptoRow.holds Try.pinned (OpenSpec.upto addrOrderSpec)

/-- 'weirlaw18.QueueFair', WHERE WHAT IT READS IS OF BULK AT MOST 1048576: true; the input reads as it did. -/
def queueFairUptoRow : OpenClaim := { program := "ytgddbpmfendaeaa", sum := "cf303efa9c3e9f0a898c8935b8f09c81f1962c67b4e570a5439bbc02a4163b29", func := "weir/weirlaw18.QueueFair", spec := "queueFair", unfollowed := true, recurses := true, apart := false, narrowed := true }
def QueueFairUptoSaid : Prop := queueFairUptoRow.holds Try.pinned (OpenSpec.upto queueFairSpec)

/-- 'weirlaw18.QueueEven', WHERE WHAT IT READS IS OF BULK AT MOST 1048576: true; the input reads as it did. -/
def queueEvenUptoRow : OpenClaim := { program := "ytgddbpmfendaeaa", sum := "cf303efa9c3e9f0a898c8935b8f09c81f1962c67b4e570a5439bbc02a4163b29", func := "weir/weirlaw18.QueueEven", spec := "queueEven", unfollowed := true, recurses := true, apart := false, narrowed := true }
def QueueEvenUptoSaid : Prop := queueEvenUptoRow.holds Try.pinned (OpenSpec.upto queueEvenSpec)

/-- 'weirlaw18.QueueNeverIdle', WHERE WHAT IT READS IS OF BULK AT MOST 1048576: true; the input reads as it did. -/
def queueNeverIdleUptoRow : OpenClaim := { program := "ytgddbpmfendaeaa", sum := "cf303efa9c3e9f0a898c8935b8f09c81f1962c67b4e570a5439bbc02a4163b29", func := "weir/weirlaw18.QueueNeverIdle", spec := "queueNeverIdle", unfollowed := true, recurses := true, apart := false, narrowed := true }
def QueueNeverIdleUptoSaid : Prop := queueNeverIdleUptoRow.holds Try.pinned (OpenSpec.upto queueNeverIdleSpec)

/-- 'weirlaw18.QueueTurns', WHERE WHAT IT READS IS OF BULK AT MOST 1048576: true; the input reads as it did. -/
def queueTurnsUptoRow : OpenClaim := { program := "ytgddbpmfendaeaa", sum := "cf303efa9c3e9f0a898c8935b8f09c81f1962c67b4e570a5439bbc02a4163b29", func := "weir/weirlaw18.QueueTurns", spec := "queueTurns", unfollowed := true, recurses := true, apart := false, narrowed := true }
def QueueTurnsUptoSaid : Prop := queueTurnsUptoRow.holds Try.pinned (OpenSpec.upto queueTurnsSpec)

/-- 'weirlaw18.QueuePeeks', WHERE WHAT IT READS IS OF BULK AT MOST 1048576: true; the input reads as it did. -/
def queuePeeksUptoRow : OpenClaim := { program := "ytgddbpmfendaeaa", sum := "cf303efa9c3e9f0a898c8935b8f09c81f1962c67b4e570a5439bbc02a4163b29", func := "weir/weirlaw18.QueuePeeks", spec := "queuePeeks", unfollowed := true, recurses := true, apart := false, narrowed := true }
def QueuePeeksUptoSaid : Prop := queuePeeksUptoRow.holds Try.pinned (OpenSpec.upto queuePeeksSpec)

/-- 'weirlaw18.QueuePlays', WHERE WHAT IT READS IS OF BULK AT MOST 1048576: true; the input reads as it did. -/
def queuePlaysUptoRow : OpenClaim := { program := "ytgddbpmfendaeaa", sum := "cf303efa9c3e9f0a898c8935b8f09c81f1962c67b4e570a5439bbc02a4163b29", func := "weir/weirlaw18.QueuePlays", spec := "queuePlays", unfollowed := true, recurses := true, apart := false, narrowed := true }
def QueuePlaysUptoSaid : Prop := queuePlaysUptoRow.holds Try.pinned (OpenSpec.upto queuePlaysSpec)

/-- 'weirlaw18.QueueMakes', WHERE WHAT IT READS IS OF BULK AT MOST 1048576: true; the input reads as it did. -/
def queueMakesUptoRow : OpenClaim := { program := "ytgddbpmfendaeaa", sum := "cf303efa9c3e9f0a898c8935b8f09c81f1962c67b4e570a5439bbc02a4163b29", func := "weir/weirlaw18.QueueMakes", spec := "queueMakes", unfollowed := true, recurses := true, apart := false, narrowed := true }
def QueueMakesUptoSaid : Prop := queueMakesUptoRow.holds Try.pinned (OpenSpec.upto queueMakesSpec)

/-- 'weirlaw18.QueueLines', WHERE WHAT IT READS IS OF BULK AT MOST 1048576: true; the input reads as it did. -/
def queueLinesUptoRow : OpenClaim := { program := "ytgddbpmfendaeaa", sum := "cf303efa9c3e9f0a898c8935b8f09c81f1962c67b4e570a5439bbc02a4163b29", func := "weir/weirlaw18.QueueLines", spec := "queueLines", unfollowed := true, recurses := true, apart := false, narrowed := true }
def QueueLinesUptoSaid : Prop := queueLinesUptoRow.holds Try.pinned (OpenSpec.upto queueLinesSpec)

/-- 'weirlaw18.QueueStays', WHERE WHAT IT READS IS OF BULK AT MOST 1048576: true; the input reads as it did. -/
def queueStaysUptoRow : OpenClaim := { program := "ytgddbpmfendaeaa", sum := "cf303efa9c3e9f0a898c8935b8f09c81f1962c67b4e570a5439bbc02a4163b29", func := "weir/weirlaw18.QueueStays", spec := "queueStays", unfollowed := true, recurses := true, apart := false, narrowed := true }
def QueueStaysUptoSaid : Prop := queueStaysUptoRow.holds Try.pinned (OpenSpec.upto queueStaysSpec)

/-- 'weirlaw18.QueueLent', WHERE WHAT IT READS IS OF BULK AT MOST 1048576: true; the input reads as it did. -/
def queueLentUptoRow : OpenClaim := { program := "ytgddbpmfendaeaa", sum := "cf303efa9c3e9f0a898c8935b8f09c81f1962c67b4e570a5439bbc02a4163b29", func := "weir/weirlaw18.QueueLent", spec := "queueLent", unfollowed := true, recurses := true, apart := false, narrowed := true }
def QueueLentUptoSaid : Prop := queueLentUptoRow.holds Try.pinned (OpenSpec.upto queueLentSpec)

end Rows
end Go.Proofs.Ytgddbpmfendaeaa
