/-
  No cell of these rows narrows 'for every input' (looked for: loops, veiled, ifaces, maps, wideKeys, modest, calm, conditions, laid).
  DERIVED. THE GIVEN ROWS OF THIS SEAT. 10 by the template 'for every input the law returns true; each argument reads behind the call as it read before'; 0 by the template 'total and deterministic' (their statements: YtlkhijflgbobjaaTotals.lean).
  GIVEN WITH THE SEED: the statements are not yours to turn. If you find one false, say at which input.
  Laid BY PROGRAM, IN A SANDBOX (cutbox-rows.mjs): the forced cells as the released guide's own fill.sh prints them over the translation d7c952596af53875… (all of the seat's roots in one cut). By AI agents, Wed Nov 11 2026. No macro, syntax, notation, axiom, sorry.
-/
import Derived.Test.YtlkhijflgbobjaaChecked
import GoSem.Claim
import GoSem.ClaimJoined
import GoSem.ClaimMapViews
import Derived.JoinedTies
import Derived.KernelRfl
namespace Go.Proofs.Ytlkhijflgbobjaa
/- THE CELL 'sum', in the pinned program and in every row, IS THE sha256 OF THE DUMP (.gsa) THAT YtlkhijflgbobjaaProg.lean LOADS. Nothing in Lean hashes anything: it is a label: what it is worth is what the hold of that sum in a sandbox is worth. -/
noncomputable def Try.pinned : Pinned := { name := "ytlkhijflgbobjaa", sum := "d7c952596af53875a62de0d20b78d6d8e669a2cb28b0306c7b710e3a856c575c", checked := Try.checked }
namespace Rows
def none {H : Type} : Left H := { results := [], args := [] }

/-- 'weirlaw15.NeighPatience': WHATEVER THE INPUT: true; the input reads as it did. -/
def neighPatienceSpec : ChangeSpec := { name := "neighPatience", fn := fun _ => fun
  | [d1, d2] => { results := [.lit (.bool true)], args := [d1, d2] }
  | _ => none }
def neighPatienceRow : OpenClaim := { program := "ytlkhijflgbobjaa", sum := "d7c952596af53875a62de0d20b78d6d8e669a2cb28b0306c7b710e3a856c575c", func := "weir/weirlaw15.NeighPatience", spec := "neighPatience", inPlace := ["internal/bytealg.Compare"], unfollowed := true, recurses := true, plainKeys := false, apart := false }
def NeighPatienceSaid : Prop := neighPatienceRow.holds Try.pinned (OpenSpec.ofChange neighPatienceSpec)

/-- ITS FALSE NEIGHBOUR: 'it returns false'. Refute it at one input. -/
def neighPatienceWrong : ChangeSpec := { name := "neighPatience", fn := fun _ => fun
  | [d1, d2] => { results := [.lit (.bool false)], args := [d1, d2] }
  | _ => none }
def NeighPatienceWrongFalsely : Prop := neighPatienceRow.holds Try.pinned (OpenSpec.ofChange neighPatienceWrong)

/-- 'weirlaw15.NeighApart': WHATEVER THE INPUT: true; the input reads as it did. -/
def neighApartSpec : ChangeSpec := { name := "neighApart", fn := fun _ => fun
  | [d1, d2] => { results := [.lit (.bool true)], args := [d1, d2] }
  | _ => none }
def neighApartRow : OpenClaim := { program := "ytlkhijflgbobjaa", sum := "d7c952596af53875a62de0d20b78d6d8e669a2cb28b0306c7b710e3a856c575c", func := "weir/weirlaw15.NeighApart", spec := "neighApart", inPlace := ["internal/bytealg.Compare"], unfollowed := true, recurses := true, plainKeys := false, apart := false }
def NeighApartSaid : Prop := neighApartRow.holds Try.pinned (OpenSpec.ofChange neighApartSpec)

/-- ITS FALSE NEIGHBOUR: 'it returns false'. Refute it at one input. -/
def neighApartWrong : ChangeSpec := { name := "neighApart", fn := fun _ => fun
  | [d1, d2] => { results := [.lit (.bool false)], args := [d1, d2] }
  | _ => none }
def NeighApartWrongFalsely : Prop := neighApartRow.holds Try.pinned (OpenSpec.ofChange neighApartWrong)

/-- 'weirlaw15.NeighItems': WHATEVER THE INPUT: true; the input reads as it did. -/
def neighItemsSpec : ChangeSpec := { name := "neighItems", fn := fun _ => fun
  | [d1, d2] => { results := [.lit (.bool true)], args := [d1, d2] }
  | _ => none }
def neighItemsRow : OpenClaim := { program := "ytlkhijflgbobjaa", sum := "d7c952596af53875a62de0d20b78d6d8e669a2cb28b0306c7b710e3a856c575c", func := "weir/weirlaw15.NeighItems", spec := "neighItems", inPlace := ["internal/bytealg.Compare"], unfollowed := true, recurses := true, plainKeys := false, apart := false }
def NeighItemsSaid : Prop := neighItemsRow.holds Try.pinned (OpenSpec.ofChange neighItemsSpec)

/-- ITS FALSE NEIGHBOUR: 'it returns false'. Refute it at one input. -/
def neighItemsWrong : ChangeSpec := { name := "neighItems", fn := fun _ => fun
  | [d1, d2] => { results := [.lit (.bool false)], args := [d1, d2] }
  | _ => none }
def NeighItemsWrongFalsely : Prop := neighItemsRow.holds Try.pinned (OpenSpec.ofChange neighItemsWrong)

/-- 'weirlaw15.NeighBounds': WHATEVER THE INPUT: true; the input reads as it did. -/
def neighBoundsSpec : ChangeSpec := { name := "neighBounds", fn := fun _ => fun
  | [d1, d2] => { results := [.lit (.bool true)], args := [d1, d2] }
  | _ => none }
def neighBoundsRow : OpenClaim := { program := "ytlkhijflgbobjaa", sum := "d7c952596af53875a62de0d20b78d6d8e669a2cb28b0306c7b710e3a856c575c", func := "weir/weirlaw15.NeighBounds", spec := "neighBounds", inPlace := ["internal/bytealg.Compare"], unfollowed := true, recurses := true, plainKeys := false, apart := false }
def NeighBoundsSaid : Prop := neighBoundsRow.holds Try.pinned (OpenSpec.ofChange neighBoundsSpec)

/-- ITS FALSE NEIGHBOUR: 'it returns false'. Refute it at one input. -/
def neighBoundsWrong : ChangeSpec := { name := "neighBounds", fn := fun _ => fun
  | [d1, d2] => { results := [.lit (.bool false)], args := [d1, d2] }
  | _ => none }
def NeighBoundsWrongFalsely : Prop := neighBoundsRow.holds Try.pinned (OpenSpec.ofChange neighBoundsWrong)

/-- 'weirlaw15.NeighOwn': WHATEVER THE INPUT: true; the input reads as it did. -/
def neighOwnSpec : ChangeSpec := { name := "neighOwn", fn := fun _ => fun
  | [d1, d2] => { results := [.lit (.bool true)], args := [d1, d2] }
  | _ => none }
def neighOwnRow : OpenClaim := { program := "ytlkhijflgbobjaa", sum := "d7c952596af53875a62de0d20b78d6d8e669a2cb28b0306c7b710e3a856c575c", func := "weir/weirlaw15.NeighOwn", spec := "neighOwn", inPlace := ["internal/bytealg.Compare"], unfollowed := true, recurses := true, plainKeys := false, apart := false }
def NeighOwnSaid : Prop := neighOwnRow.holds Try.pinned (OpenSpec.ofChange neighOwnSpec)

/-- ITS FALSE NEIGHBOUR: 'it returns false'. Refute it at one input. -/
def neighOwnWrong : ChangeSpec := { name := "neighOwn", fn := fun _ => fun
  | [d1, d2] => { results := [.lit (.bool false)], args := [d1, d2] }
  | _ => none }
def NeighOwnWrongFalsely : Prop := neighOwnRow.holds Try.pinned (OpenSpec.ofChange neighOwnWrong)

/-- 'weirlaw15.NeighAnswers': WHATEVER THE INPUT: true; the input reads as it did. -/
def neighAnswersSpec : ChangeSpec := { name := "neighAnswers", fn := fun _ => fun
  | [d1, d2] => { results := [.lit (.bool true)], args := [d1, d2] }
  | _ => none }
def neighAnswersRow : OpenClaim := { program := "ytlkhijflgbobjaa", sum := "d7c952596af53875a62de0d20b78d6d8e669a2cb28b0306c7b710e3a856c575c", func := "weir/weirlaw15.NeighAnswers", spec := "neighAnswers", inPlace := ["internal/bytealg.Compare"], unfollowed := true, recurses := true, plainKeys := false, apart := false }
def NeighAnswersSaid : Prop := neighAnswersRow.holds Try.pinned (OpenSpec.ofChange neighAnswersSpec)

/-- ITS FALSE NEIGHBOUR: 'it returns false'. Refute it at one input. -/
def neighAnswersWrong : ChangeSpec := { name := "neighAnswers", fn := fun _ => fun
  | [d1, d2] => { results := [.lit (.bool false)], args := [d1, d2] }
  | _ => none }
def NeighAnswersWrongFalsely : Prop := neighAnswersRow.holds Try.pinned (OpenSpec.ofChange neighAnswersWrong)

/-- 'weirlaw15.NeighTells': WHATEVER THE INPUT: true; the input reads as it did. -/
def neighTellsSpec : ChangeSpec := { name := "neighTells", fn := fun _ => fun
  | [d1, d2] => { results := [.lit (.bool true)], args := [d1, d2] }
  | _ => none }
def neighTellsRow : OpenClaim := { program := "ytlkhijflgbobjaa", sum := "d7c952596af53875a62de0d20b78d6d8e669a2cb28b0306c7b710e3a856c575c", func := "weir/weirlaw15.NeighTells", spec := "neighTells", inPlace := ["internal/bytealg.Compare"], unfollowed := true, recurses := true, plainKeys := false, apart := false }
def NeighTellsSaid : Prop := neighTellsRow.holds Try.pinned (OpenSpec.ofChange neighTellsSpec)

/-- ITS FALSE NEIGHBOUR: 'it returns false'. Refute it at one input. -/
def neighTellsWrong : ChangeSpec := { name := "neighTells", fn := fun _ => fun
  | [d1, d2] => { results := [.lit (.bool false)], args := [d1, d2] }
  | _ => none }
def NeighTellsWrongFalsely : Prop := neighTellsRow.holds Try.pinned (OpenSpec.ofChange neighTellsWrong)

/-- 'weirlaw15.NeighPlays': WHATEVER THE INPUT: true; the input reads as it did. -/
def neighPlaysSpec : ChangeSpec := { name := "neighPlays", fn := fun _ => fun
  | [d1, d2] => { results := [.lit (.bool true)], args := [d1, d2] }
  | _ => none }
def neighPlaysRow : OpenClaim := { program := "ytlkhijflgbobjaa", sum := "d7c952596af53875a62de0d20b78d6d8e669a2cb28b0306c7b710e3a856c575c", func := "weir/weirlaw15.NeighPlays", spec := "neighPlays", inPlace := ["internal/bytealg.Compare"], unfollowed := true, recurses := true, plainKeys := false, apart := false }
def NeighPlaysSaid : Prop := neighPlaysRow.holds Try.pinned (OpenSpec.ofChange neighPlaysSpec)

/-- ITS FALSE NEIGHBOUR: 'it returns false'. Refute it at one input. -/
def neighPlaysWrong : ChangeSpec := { name := "neighPlays", fn := fun _ => fun
  | [d1, d2] => { results := [.lit (.bool false)], args := [d1, d2] }
  | _ => none }
def NeighPlaysWrongFalsely : Prop := neighPlaysRow.holds Try.pinned (OpenSpec.ofChange neighPlaysWrong)

/-- 'weirlaw15.NeighMakes': WHATEVER THE INPUT: true; the input reads as it did. -/
def neighMakesSpec : ChangeSpec := { name := "neighMakes", fn := fun _ => fun
  | [d] => { results := [.lit (.bool true)], args := [d] }
  | _ => none }
def neighMakesRow : OpenClaim := { program := "ytlkhijflgbobjaa", sum := "d7c952596af53875a62de0d20b78d6d8e669a2cb28b0306c7b710e3a856c575c", func := "weir/weirlaw15.NeighMakes", spec := "neighMakes", inPlace := ["internal/bytealg.Compare"], unfollowed := true, recurses := true, plainKeys := false, apart := false }
def NeighMakesSaid : Prop := neighMakesRow.holds Try.pinned (OpenSpec.ofChange neighMakesSpec)

/-- ITS FALSE NEIGHBOUR: 'it returns false'. Refute it at one input. -/
def neighMakesWrong : ChangeSpec := { name := "neighMakes", fn := fun _ => fun
  | [d] => { results := [.lit (.bool false)], args := [d] }
  | _ => none }
def NeighMakesWrongFalsely : Prop := neighMakesRow.holds Try.pinned (OpenSpec.ofChange neighMakesWrong)

/-- 'weirlaw15.NeighStays': WHATEVER THE INPUT: true; the input reads as it did. -/
def neighStaysSpec : ChangeSpec := { name := "neighStays", fn := fun _ => fun
  | [d1, d2] => { results := [.lit (.bool true)], args := [d1, d2] }
  | _ => none }
def neighStaysRow : OpenClaim := { program := "ytlkhijflgbobjaa", sum := "d7c952596af53875a62de0d20b78d6d8e669a2cb28b0306c7b710e3a856c575c", func := "weir/weirlaw15.NeighStays", spec := "neighStays", inPlace := ["internal/bytealg.Compare"], unfollowed := true, recurses := true, plainKeys := false, apart := false }
def NeighStaysSaid : Prop := neighStaysRow.holds Try.pinned (OpenSpec.ofChange neighStaysSpec)

/-- ITS FALSE NEIGHBOUR: 'it returns false'. Refute it at one input. -/
def neighStaysWrong : ChangeSpec := { name := "neighStays", fn := fun _ => fun
  | [d1, d2] => { results := [.lit (.bool false)], args := [d1, d2] }
  | _ => none }
def NeighStaysWrongFalsely : Prop := neighStaysRow.holds Try.pinned (OpenSpec.ofChange neighStaysWrong)

/- THE SECOND FORM. 'bulk': how many values and letters a reading holds, each counted each time it is reached (what is shared counts as often as it is met; a slice's spare places count too). A statement '..UptoSaid' is the law's where the arguments, and the package variables that the reading takes, are together of bulk at most 1048576: NARROWER than '..Said'. Prove '..Said' where nothing that the law and all that it calls make is longer than what came in: it says more and counts as full. Else prove '..UptoSaid'. A law counts once. -/
mutual
def uptoBulk {H : Type} : DataW H → Nat
  | .lit (.string bytes) => bytes.length + 1
  | .lit _ => 1
  | .nil => 1
  | .ptr d => uptoBulk d + 1
  | .slice elems spare => uptoBulkAll elems + uptoBulkAll spare + 1
  | .agg parts => uptoBulkAll parts + 1
  | .iface _ d => uptoBulk d + 1
  | .map entries => uptoBulkEntries entries + 1
  | .held _ => 1
def uptoBulkAll {H : Type} : List (DataW H) → Nat
  | [] => 0
  | d :: r => uptoBulk d + uptoBulkAll r
def uptoBulkEntries {H : Type} : List (Lit × DataW H) → Nat
  | [] => 0
  | x :: r => uptoBulkEntry x + uptoBulkEntries r
def uptoBulkEntry {H : Type} : Lit × DataW H → Nat
  | (.string bytes, d) => bytes.length + uptoBulk d + 1
  | (_, d) => uptoBulk d + 1
 end
def uptoSmall : (H : Type) → List (DataW H) → Bool := fun _ ds => decide (uptoBulkAll ds ≤ 1048576)
def OpenSpec.upto (s : _root_.Go.ChangeSpec) : _root_.Go.OpenSpec := { _root_.Go.OpenSpec.ofChange s with cond := some uptoSmall }

/-- 'weirlaw15.NeighPatience', WHERE WHAT IT READS IS OF BULK AT MOST 1048576: true; the input reads as it did. -/
def neighPatienceUptoRow : OpenClaim := { program := "ytlkhijflgbobjaa", sum := "d7c952596af53875a62de0d20b78d6d8e669a2cb28b0306c7b710e3a856c575c", func := "weir/weirlaw15.NeighPatience", spec := "neighPatience", inPlace := ["internal/bytealg.Compare"], unfollowed := true, recurses := true, plainKeys := false, apart := false, narrowed := true }
def NeighPatienceUptoSaid : Prop := neighPatienceUptoRow.holds Try.pinned (OpenSpec.upto neighPatienceSpec)

/-- 'weirlaw15.NeighApart', WHERE WHAT IT READS IS OF BULK AT MOST 1048576: true; the input reads as it did. -/
def neighApartUptoRow : OpenClaim := { program := "ytlkhijflgbobjaa", sum := "d7c952596af53875a62de0d20b78d6d8e669a2cb28b0306c7b710e3a856c575c", func := "weir/weirlaw15.NeighApart", spec := "neighApart", inPlace := ["internal/bytealg.Compare"], unfollowed := true, recurses := true, plainKeys := false, apart := false, narrowed := true }
def NeighApartUptoSaid : Prop := neighApartUptoRow.holds Try.pinned (OpenSpec.upto neighApartSpec)

/-- 'weirlaw15.NeighItems', WHERE WHAT IT READS IS OF BULK AT MOST 1048576: true; the input reads as it did. -/
def neighItemsUptoRow : OpenClaim := { program := "ytlkhijflgbobjaa", sum := "d7c952596af53875a62de0d20b78d6d8e669a2cb28b0306c7b710e3a856c575c", func := "weir/weirlaw15.NeighItems", spec := "neighItems", inPlace := ["internal/bytealg.Compare"], unfollowed := true, recurses := true, plainKeys := false, apart := false, narrowed := true }
def NeighItemsUptoSaid : Prop := neighItemsUptoRow.holds Try.pinned (OpenSpec.upto neighItemsSpec)

/-- 'weirlaw15.NeighBounds', WHERE WHAT IT READS IS OF BULK AT MOST 1048576: true; the input reads as it did. -/
def neighBoundsUptoRow : OpenClaim := { program := "ytlkhijflgbobjaa", sum := "d7c952596af53875a62de0d20b78d6d8e669a2cb28b0306c7b710e3a856c575c", func := "weir/weirlaw15.NeighBounds", spec := "neighBounds", inPlace := ["internal/bytealg.Compare"], unfollowed := true, recurses := true, plainKeys := false, apart := false, narrowed := true }
def NeighBoundsUptoSaid : Prop := neighBoundsUptoRow.holds Try.pinned (OpenSpec.upto neighBoundsSpec)

/-- 'weirlaw15.NeighOwn', WHERE WHAT IT READS IS OF BULK AT MOST 1048576: true; the input reads as it did. -/
def neighOwnUptoRow : OpenClaim := { program := "ytlkhijflgbobjaa", sum := "d7c952596af53875a62de0d20b78d6d8e669a2cb28b0306c7b710e3a856c575c", func := "weir/weirlaw15.NeighOwn", spec := "neighOwn", inPlace := ["internal/bytealg.Compare"], unfollowed := true, recurses := true, plainKeys := false, apart := false, narrowed := true }
def NeighOwnUptoSaid : Prop := neighOwnUptoRow.holds Try.pinned (OpenSpec.upto neighOwnSpec)

/-- 'weirlaw15.NeighAnswers', WHERE WHAT IT READS IS OF BULK AT MOST 1048576: true; the input reads as it did. -/
def neighAnswersUptoRow : OpenClaim := { program := "ytlkhijflgbobjaa", sum := "d7c952596af53875a62de0d20b78d6d8e669a2cb28b0306c7b710e3a856c575c", func := "weir/weirlaw15.NeighAnswers", spec := "neighAnswers", inPlace := ["internal/bytealg.Compare"], unfollowed := true, recurses := true, plainKeys := false, apart := false, narrowed := true }
def NeighAnswersUptoSaid : Prop := neighAnswersUptoRow.holds Try.pinned (OpenSpec.upto neighAnswersSpec)

/-- 'weirlaw15.NeighTells', WHERE WHAT IT READS IS OF BULK AT MOST 1048576: true; the input reads as it did. -/
def neighTellsUptoRow : OpenClaim := { program := "ytlkhijflgbobjaa", sum := "d7c952596af53875a62de0d20b78d6d8e669a2cb28b0306c7b710e3a856c575c", func := "weir/weirlaw15.NeighTells", spec := "neighTells", inPlace := ["internal/bytealg.Compare"], unfollowed := true, recurses := true, plainKeys := false, apart := false, narrowed := true }
def NeighTellsUptoSaid : Prop := neighTellsUptoRow.holds Try.pinned (OpenSpec.upto neighTellsSpec)

/-- 'weirlaw15.NeighPlays', WHERE WHAT IT READS IS OF BULK AT MOST 1048576: true; the input reads as it did. -/
def neighPlaysUptoRow : OpenClaim := { program := "ytlkhijflgbobjaa", sum := "d7c952596af53875a62de0d20b78d6d8e669a2cb28b0306c7b710e3a856c575c", func := "weir/weirlaw15.NeighPlays", spec := "neighPlays", inPlace := ["internal/bytealg.Compare"], unfollowed := true, recurses := true, plainKeys := false, apart := false, narrowed := true }
def NeighPlaysUptoSaid : Prop := neighPlaysUptoRow.holds Try.pinned (OpenSpec.upto neighPlaysSpec)

/-- 'weirlaw15.NeighMakes', WHERE WHAT IT READS IS OF BULK AT MOST 1048576: true; the input reads as it did. -/
def neighMakesUptoRow : OpenClaim := { program := "ytlkhijflgbobjaa", sum := "d7c952596af53875a62de0d20b78d6d8e669a2cb28b0306c7b710e3a856c575c", func := "weir/weirlaw15.NeighMakes", spec := "neighMakes", inPlace := ["internal/bytealg.Compare"], unfollowed := true, recurses := true, plainKeys := false, apart := false, narrowed := true }
def NeighMakesUptoSaid : Prop := neighMakesUptoRow.holds Try.pinned (OpenSpec.upto neighMakesSpec)

/-- 'weirlaw15.NeighStays', WHERE WHAT IT READS IS OF BULK AT MOST 1048576: true; the input reads as it did. -/
def neighStaysUptoRow : OpenClaim := { program := "ytlkhijflgbobjaa", sum := "d7c952596af53875a62de0d20b78d6d8e669a2cb28b0306c7b710e3a856c575c", func := "weir/weirlaw15.NeighStays", spec := "neighStays", inPlace := ["internal/bytealg.Compare"], unfollowed := true, recurses := true, plainKeys := false, apart := false, narrowed := true }
def NeighStaysUptoSaid : Prop := neighStaysUptoRow.holds Try.pinned (OpenSpec.upto neighStaysSpec)

end Rows
end Go.Proofs.Ytlkhijflgbobjaa
