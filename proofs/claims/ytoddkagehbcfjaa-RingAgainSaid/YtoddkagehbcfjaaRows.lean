/-
  No cell of these rows narrows 'for every input' (looked for: loops, veiled, ifaces, maps, wideKeys, modest, calm, conditions, laid).
  DERIVED. THE GIVEN ROWS OF THIS SEAT. 10 by the template 'for every input the law returns true; each argument reads behind the call as it read before'; 0 by the template 'total and deterministic' (their statements: YtoddkagehbcfjaaTotals.lean).
  GIVEN WITH THE SEED: the statements are not yours to turn. If you find one false, say at which input.
  Laid BY PROGRAM, IN A SANDBOX (cutbox-rows.mjs): the forced cells as the released guide's own fill.sh prints them over the translation c6353a6a98a23755… (all of the seat's roots in one cut). By AI agents, Wed Nov 11 2026. No macro, syntax, notation, axiom, sorry.
-/
import Derived.Test.YtoddkagehbcfjaaChecked
import GoSem.Claim
import GoSem.ClaimJoined
import GoSem.ClaimMapViews
import Derived.JoinedTies
import Derived.KernelRfl
namespace Go.Proofs.Ytoddkagehbcfjaa
/- THE CELL 'sum', in the pinned program and in every row, IS THE sha256 OF THE DUMP (.gsa) THAT YtoddkagehbcfjaaProg.lean LOADS. Nothing in Lean hashes anything: it is a label: what it is worth is what the hold of that sum in a sandbox is worth. -/
noncomputable def Try.pinned : Pinned := { name := "ytoddkagehbcfjaa", sum := "c6353a6a98a23755f585ac67be23ad04a1eb1fdfce97bb67b3ea4c463df1c5b6", checked := Try.checked }
namespace Rows
def none {H : Type} : Left H := { results := [], args := [] }

/-- 'weirlaw3.RingWindows': WHATEVER THE INPUT: true; the input reads as it did. -/
def ringWindowsSpec : ChangeSpec := { name := "ringWindows", fn := fun _ => fun
  | [d1, d2, d3] => { results := [.lit (.bool true)], args := [d1, d2, d3] }
  | _ => none }
def ringWindowsRow : OpenClaim := { program := "ytoddkagehbcfjaa", sum := "c6353a6a98a23755f585ac67be23ad04a1eb1fdfce97bb67b3ea4c463df1c5b6", func := "weir/weirlaw3.RingWindows", spec := "ringWindows", apart := false }
def RingWindowsSaid : Prop := ringWindowsRow.holds Try.pinned (OpenSpec.ofChange ringWindowsSpec)

/-- ITS FALSE NEIGHBOUR: 'it returns false'. Refute it at one input. -/
def ringWindowsWrong : ChangeSpec := { name := "ringWindows", fn := fun _ => fun
  | [d1, d2, d3] => { results := [.lit (.bool false)], args := [d1, d2, d3] }
  | _ => none }
def RingWindowsWrongFalsely : Prop := ringWindowsRow.holds Try.pinned (OpenSpec.ofChange ringWindowsWrong)

/-- 'weirlaw3.RingFifo': WHATEVER THE INPUT: true; the input reads as it did. -/
def ringFifoSpec : ChangeSpec := { name := "ringFifo", fn := fun _ => fun
  | [d1, d2, d3, d4, d5] => { results := [.lit (.bool true)], args := [d1, d2, d3, d4, d5] }
  | _ => none }
def ringFifoRow : OpenClaim := { program := "ytoddkagehbcfjaa", sum := "c6353a6a98a23755f585ac67be23ad04a1eb1fdfce97bb67b3ea4c463df1c5b6", func := "weir/weirlaw3.RingFifo", spec := "ringFifo", apart := false }
def RingFifoSaid : Prop := ringFifoRow.holds Try.pinned (OpenSpec.ofChange ringFifoSpec)

/-- ITS FALSE NEIGHBOUR: 'it returns false'. Refute it at one input. -/
def ringFifoWrong : ChangeSpec := { name := "ringFifo", fn := fun _ => fun
  | [d1, d2, d3, d4, d5] => { results := [.lit (.bool false)], args := [d1, d2, d3, d4, d5] }
  | _ => none }
def RingFifoWrongFalsely : Prop := ringFifoRow.holds Try.pinned (OpenSpec.ofChange ringFifoWrong)

/-- 'weirlaw3.RingClean': WHATEVER THE INPUT: true; the input reads as it did. -/
def ringCleanSpec : ChangeSpec := { name := "ringClean", fn := fun _ => fun
  | [d1, d2, d3, d4, d5, d6] => { results := [.lit (.bool true)], args := [d1, d2, d3, d4, d5, d6] }
  | _ => none }
def ringCleanRow : OpenClaim := { program := "ytoddkagehbcfjaa", sum := "c6353a6a98a23755f585ac67be23ad04a1eb1fdfce97bb67b3ea4c463df1c5b6", func := "weir/weirlaw3.RingClean", spec := "ringClean", apart := false }
def RingCleanSaid : Prop := ringCleanRow.holds Try.pinned (OpenSpec.ofChange ringCleanSpec)

/-- ITS FALSE NEIGHBOUR: 'it returns false'. Refute it at one input. -/
def ringCleanWrong : ChangeSpec := { name := "ringClean", fn := fun _ => fun
  | [d1, d2, d3, d4, d5, d6] => { results := [.lit (.bool false)], args := [d1, d2, d3, d4, d5, d6] }
  | _ => none }
def RingCleanWrongFalsely : Prop := ringCleanRow.holds Try.pinned (OpenSpec.ofChange ringCleanWrong)

/-- 'weirlaw3.RingFrames': WHATEVER THE INPUT: true; the input reads as it did. -/
def ringFramesSpec : ChangeSpec := { name := "ringFrames", fn := fun _ => fun
  | [d1, d2, d3, d4, d5] => { results := [.lit (.bool true)], args := [d1, d2, d3, d4, d5] }
  | _ => none }
def ringFramesRow : OpenClaim := { program := "ytoddkagehbcfjaa", sum := "c6353a6a98a23755f585ac67be23ad04a1eb1fdfce97bb67b3ea4c463df1c5b6", func := "weir/weirlaw3.RingFrames", spec := "ringFrames", apart := false }
def RingFramesSaid : Prop := ringFramesRow.holds Try.pinned (OpenSpec.ofChange ringFramesSpec)

/-- ITS FALSE NEIGHBOUR: 'it returns false'. Refute it at one input. -/
def ringFramesWrong : ChangeSpec := { name := "ringFrames", fn := fun _ => fun
  | [d1, d2, d3, d4, d5] => { results := [.lit (.bool false)], args := [d1, d2, d3, d4, d5] }
  | _ => none }
def RingFramesWrongFalsely : Prop := ringFramesRow.holds Try.pinned (OpenSpec.ofChange ringFramesWrong)

/-- 'weirlaw3.RingCounts': WHATEVER THE INPUT: true; the input reads as it did. -/
def ringCountsSpec : ChangeSpec := { name := "ringCounts", fn := fun _ => fun
  | [d1, d2, d3, d4, d5] => { results := [.lit (.bool true)], args := [d1, d2, d3, d4, d5] }
  | _ => none }
def ringCountsRow : OpenClaim := { program := "ytoddkagehbcfjaa", sum := "c6353a6a98a23755f585ac67be23ad04a1eb1fdfce97bb67b3ea4c463df1c5b6", func := "weir/weirlaw3.RingCounts", spec := "ringCounts", apart := false }
def RingCountsSaid : Prop := ringCountsRow.holds Try.pinned (OpenSpec.ofChange ringCountsSpec)

/-- ITS FALSE NEIGHBOUR: 'it returns false'. Refute it at one input. -/
def ringCountsWrong : ChangeSpec := { name := "ringCounts", fn := fun _ => fun
  | [d1, d2, d3, d4, d5] => { results := [.lit (.bool false)], args := [d1, d2, d3, d4, d5] }
  | _ => none }
def RingCountsWrongFalsely : Prop := ringCountsRow.holds Try.pinned (OpenSpec.ofChange ringCountsWrong)

/-- 'weirlaw3.RingPlays': WHATEVER THE INPUT: true; the input reads as it did. -/
def ringPlaysSpec : ChangeSpec := { name := "ringPlays", fn := fun _ => fun
  | [d1, d2, d3, d4, d5] => { results := [.lit (.bool true)], args := [d1, d2, d3, d4, d5] }
  | _ => none }
def ringPlaysRow : OpenClaim := { program := "ytoddkagehbcfjaa", sum := "c6353a6a98a23755f585ac67be23ad04a1eb1fdfce97bb67b3ea4c463df1c5b6", func := "weir/weirlaw3.RingPlays", spec := "ringPlays", apart := false }
def RingPlaysSaid : Prop := ringPlaysRow.holds Try.pinned (OpenSpec.ofChange ringPlaysSpec)

/-- ITS FALSE NEIGHBOUR: 'it returns false'. Refute it at one input. -/
def ringPlaysWrong : ChangeSpec := { name := "ringPlays", fn := fun _ => fun
  | [d1, d2, d3, d4, d5] => { results := [.lit (.bool false)], args := [d1, d2, d3, d4, d5] }
  | _ => none }
def RingPlaysWrongFalsely : Prop := ringPlaysRow.holds Try.pinned (OpenSpec.ofChange ringPlaysWrong)

/-- 'weirlaw3.RingMakes': WHATEVER THE INPUT: true; the input reads as it did. -/
def ringMakesSpec : ChangeSpec := { name := "ringMakes", fn := fun _ => fun
  | [d1, d2, d3, d4] => { results := [.lit (.bool true)], args := [d1, d2, d3, d4] }
  | _ => none }
def ringMakesRow : OpenClaim := { program := "ytoddkagehbcfjaa", sum := "c6353a6a98a23755f585ac67be23ad04a1eb1fdfce97bb67b3ea4c463df1c5b6", func := "weir/weirlaw3.RingMakes", spec := "ringMakes", apart := false }
def RingMakesSaid : Prop := ringMakesRow.holds Try.pinned (OpenSpec.ofChange ringMakesSpec)

/-- ITS FALSE NEIGHBOUR: 'it returns false'. Refute it at one input. -/
def ringMakesWrong : ChangeSpec := { name := "ringMakes", fn := fun _ => fun
  | [d1, d2, d3, d4] => { results := [.lit (.bool false)], args := [d1, d2, d3, d4] }
  | _ => none }
def RingMakesWrongFalsely : Prop := ringMakesRow.holds Try.pinned (OpenSpec.ofChange ringMakesWrong)

/-- 'weirlaw3.RingPlaces': WHATEVER THE INPUT: true; the input reads as it did. -/
def ringPlacesSpec : ChangeSpec := { name := "ringPlaces", fn := fun _ => fun
  | [d1, d2, d3, d4, d5] => { results := [.lit (.bool true)], args := [d1, d2, d3, d4, d5] }
  | _ => none }
def ringPlacesRow : OpenClaim := { program := "ytoddkagehbcfjaa", sum := "c6353a6a98a23755f585ac67be23ad04a1eb1fdfce97bb67b3ea4c463df1c5b6", func := "weir/weirlaw3.RingPlaces", spec := "ringPlaces", apart := false }
def RingPlacesSaid : Prop := ringPlacesRow.holds Try.pinned (OpenSpec.ofChange ringPlacesSpec)

/-- ITS FALSE NEIGHBOUR: 'it returns false'. Refute it at one input. -/
def ringPlacesWrong : ChangeSpec := { name := "ringPlaces", fn := fun _ => fun
  | [d1, d2, d3, d4, d5] => { results := [.lit (.bool false)], args := [d1, d2, d3, d4, d5] }
  | _ => none }
def RingPlacesWrongFalsely : Prop := ringPlacesRow.holds Try.pinned (OpenSpec.ofChange ringPlacesWrong)

/-- 'weirlaw3.RingLent': WHATEVER THE INPUT: true; the input reads as it did. -/
def ringLentSpec : ChangeSpec := { name := "ringLent", fn := fun _ => fun
  | [d1, d2, d3, d4, d5] => { results := [.lit (.bool true)], args := [d1, d2, d3, d4, d5] }
  | _ => none }
def ringLentRow : OpenClaim := { program := "ytoddkagehbcfjaa", sum := "c6353a6a98a23755f585ac67be23ad04a1eb1fdfce97bb67b3ea4c463df1c5b6", func := "weir/weirlaw3.RingLent", spec := "ringLent", apart := false }
def RingLentSaid : Prop := ringLentRow.holds Try.pinned (OpenSpec.ofChange ringLentSpec)

/-- ITS FALSE NEIGHBOUR: 'it returns false'. Refute it at one input. -/
def ringLentWrong : ChangeSpec := { name := "ringLent", fn := fun _ => fun
  | [d1, d2, d3, d4, d5] => { results := [.lit (.bool false)], args := [d1, d2, d3, d4, d5] }
  | _ => none }
def RingLentWrongFalsely : Prop := ringLentRow.holds Try.pinned (OpenSpec.ofChange ringLentWrong)

/-- 'weirlaw3.RingAgain': WHATEVER THE INPUT: true; the input reads as it did. -/
def ringAgainSpec : ChangeSpec := { name := "ringAgain", fn := fun _ => fun
  | [d] => { results := [.lit (.bool true)], args := [d] }
  | _ => none }
def ringAgainRow : OpenClaim := { program := "ytoddkagehbcfjaa", sum := "c6353a6a98a23755f585ac67be23ad04a1eb1fdfce97bb67b3ea4c463df1c5b6", func := "weir/weirlaw3.RingAgain", spec := "ringAgain", apart := false }
def RingAgainSaid : Prop := ringAgainRow.holds Try.pinned (OpenSpec.ofChange ringAgainSpec)

/-- ITS FALSE NEIGHBOUR: 'it returns false'. Refute it at one input. -/
def ringAgainWrong : ChangeSpec := { name := "ringAgain", fn := fun _ => fun
  | [d] => { results := [.lit (.bool false)], args := [d] }
  | _ => none }
def RingAgainWrongFalsely : Prop := ringAgainRow.holds Try.pinned (OpenSpec.ofChange ringAgainWrong)

/- THE SECOND FORM. 'bulk': how many values and letters a reading holds, each counted each time it is reached (what is shared counts as often as it is met; a slice's spare places count too). A statement '..UptoSaid' is the law's where the arguments, and the package variables that the reading takes, are together of bulk at most 1048576: NARROWER than '..Said'. Prove '..Said' where nothing that the law and all that it calls make is longer than what came in: it says more and counts as full. Else prove '..UptoSaid'. A law counts once. -/
mutual
def uptoBulk {H : Type} : DataW H → Nat
  | .lit (.string bytes) => bytes.length + 1
  | .lit _ => 1
  | .nil => 1
  | .ptr d => uptoBulk d + 1
  | .slice elems spare => uptoBulkAll elems + uptoBulkAll spare + 1
  | .agg parts => uptoBulkAll parts + 1
  | .iface _ d => uptoBulk d + 1
  | .map entries => uptoBulkEntries entries + 1
  | .held _ => 1
def uptoBulkAll {H : Type} : List (DataW H) → Nat
  | [] => 0
  | d :: r => uptoBulk d + uptoBulkAll r
def uptoBulkEntries {H : Type} : List (Lit × DataW H) → Nat
  | [] => 0
  | x :: r => uptoBulkEntry x + uptoBulkEntries r
def uptoBulkEntry {H : Type} : Lit × DataW H → Nat
  | (.string bytes, d) => bytes.length + uptoBulk d + 1
  | (_, d) => uptoBulk d + 1
 end
def uptoSmall : (H : Type) → List (DataW H) → Bool := fun _ ds => decide (uptoBulkAll ds ≤ 1048576)
def OpenSpec.upto (s : _root_.Go.ChangeSpec) : _root_.Go.OpenSpec := { _root_.Go.OpenSpec.ofChange s with cond := some uptoSmall }

/-- 'weirlaw3.RingWindows', WHERE WHAT IT READS IS OF BULK AT MOST 1048576: true; the input reads as it did. -/
def ringWindowsUptoRow : OpenClaim := { program := "ytoddkagehbcfjaa", sum := "c6353a6a98a23755f585ac67be23ad04a1eb1fdfce97bb67b3ea4c463df1c5b6", func := "weir/weirlaw3.RingWindows", spec := "ringWindows", apart := false, narrowed := true }
def RingWindowsUptoSaid : Prop := ringWindowsUptoRow.holds Try.pinned (OpenSpec.upto ringWindowsSpec)

/-- 'weirlaw3.RingFifo', WHERE WHAT IT READS IS OF BULK AT MOST 1048576: true; the input reads as it did. -/
def ringFifoUptoRow : OpenClaim := { program := "ytoddkagehbcfjaa", sum := "c6353a6a98a23755f585ac67be23ad04a1eb1fdfce97bb67b3ea4c463df1c5b6", func := "weir/weirlaw3.RingFifo", spec := "ringFifo", apart := false, narrowed := true }
def RingFifoUptoSaid : Prop := ringFifoUptoRow.holds Try.pinned (OpenSpec.upto ringFifoSpec)

/-- 'weirlaw3.RingClean', WHERE WHAT IT READS IS OF BULK AT MOST 1048576: true; the input reads as it did. -/
def ringCleanUptoRow : OpenClaim := { program := "ytoddkagehbcfjaa", sum := "c6353a6a98a23755f585ac67be23ad04a1eb1fdfce97bb67b3ea4c463df1c5b6", func := "weir/weirlaw3.RingClean", spec := "ringClean", apart := false, narrowed := true }
def RingCleanUptoSaid : Prop := ringCleanUptoRow.holds Try.pinned (OpenSpec.upto ringCleanSpec)

/-- 'weirlaw3.RingFrames', WHERE WHAT IT READS IS OF BULK AT MOST 1048576: true; the input reads as it did. -/
def ringFramesUptoRow : OpenClaim := { program := "ytoddkagehbcfjaa", sum := "c6353a6a98a23755f585ac67be23ad04a1eb1fdfce97bb67b3ea4c463df1c5b6", func := "weir/weirlaw3.RingFrames", spec := "ringFrames", apart := false, narrowed := true }
def RingFramesUptoSaid : Prop := ringFramesUptoRow.holds Try.pinned (OpenSpec.upto ringFramesSpec)

/-- 'weirlaw3.RingCounts', WHERE WHAT IT READS IS OF BULK AT MOST 1048576: true; the input reads as it did. -/
def ringCountsUptoRow : OpenClaim := { program := "ytoddkagehbcfjaa", sum := "c6353a6a98a23755f585ac67be23ad04a1eb1fdfce97bb67b3ea4c463df1c5b6", func := "weir/weirlaw3.RingCounts", spec := "ringCounts", apart := false, narrowed := true }
def RingCountsUptoSaid : Prop := ringCountsUptoRow.holds Try.pinned (OpenSpec.upto ringCountsSpec)

/-- 'weirlaw3.RingPlays', WHERE WHAT IT READS IS OF BULK AT MOST 1048576: true; the input reads as it did. -/
def ringPlaysUptoRow : OpenClaim := { program := "ytoddkagehbcfjaa", sum := "c6353a6a98a23755f585ac67be23ad04a1eb1fdfce97bb67b3ea4c463df1c5b6", func := "weir/weirlaw3.RingPlays", spec := "ringPlays", apart := false, narrowed := true }
def RingPlaysUptoSaid : Prop := ringPlaysUptoRow.holds Try.pinned (OpenSpec.upto ringPlaysSpec)

/-- 'weirlaw3.RingMakes', WHERE WHAT IT READS IS OF BULK AT MOST 1048576: true; the input reads as it did. -/
def ringMakesUptoRow : OpenClaim := { program := "ytoddkagehbcfjaa", sum := "c6353a6a98a23755f585ac67be23ad04a1eb1fdfce97bb67b3ea4c463df1c5b6", func := "weir/weirlaw3.RingMakes", spec := "ringMakes", apart := false, narrowed := true }
def RingMakesUptoSaid : Prop := ringMakesUptoRow.holds Try.pinned (OpenSpec.upto ringMakesSpec)

/-- 'weirlaw3.RingPlaces', WHERE WHAT IT READS IS OF BULK AT MOST 1048576: true; the input reads as it did. -/
def ringPlacesUptoRow : OpenClaim := { program := "ytoddkagehbcfjaa", sum := "c6353a6a98a23755f585ac67be23ad04a1eb1fdfce97bb67b3ea4c463df1c5b6", func := "weir/weirlaw3.RingPlaces", spec := "ringPlaces", apart := false, narrowed := true }
def RingPlacesUptoSaid : Prop := ringPlacesUptoRow.holds Try.pinned (OpenSpec.upto ringPlacesSpec)

/-- 'weirlaw3.RingLent', WHERE WHAT IT READS IS OF BULK AT MOST 1048576: true; the input reads as it did. -/
def ringLentUptoRow : OpenClaim := { program := "ytoddkagehbcfjaa", sum := "c6353a6a98a23755f585ac67be23ad04a1eb1fdfce97bb67b3ea4c463df1c5b6", func := "weir/weirlaw3.RingLent", spec := "ringLent", apart := false, narrowed := true }
def RingLentUptoSaid : Prop := ringLentUptoRow.holds Try.pinned (OpenSpec.upto ringLentSpec)

/-- 'weirlaw3.RingAgain', WHERE WHAT IT READS IS OF BULK AT MOST 1048576: true; the input reads as it did. -/
def ringAgainUptoRow : OpenClaim := { program := "ytoddkagehbcfjaa", sum := "c6353a6a98a23755f585ac67be23ad04a1eb1fdfce97bb67b3ea4c463df1c5b6", func := "weir/weirlaw3.RingAgain", spec := "ringAgain", apart := false, narrowed := true }
def RingAgainUptoSaid : Prop := ringAgainUptoRow.holds Try.pinned (OpenSpec.upto ringAgainSpec)

end Rows
end Go.Proofs.Ytoddkagehbcfjaa
