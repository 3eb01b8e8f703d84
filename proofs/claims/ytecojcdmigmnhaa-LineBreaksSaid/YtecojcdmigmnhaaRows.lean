/-
  No cell of these rows narrows 'for every input' (looked for: loops, veiled, ifaces, maps, wideKeys, modest, calm, conditions, laid).
  DERIVED. THE GIVEN ROWS OF THIS SEAT. 9 by the template 'for every input the law returns true; each argument reads behind the call as it read before'; 0 by the template 'total and deterministic' (their statements: YtecojcdmigmnhaaTotals.lean).
  GIVEN WITH THE SEED: the statements are not yours to turn. If you find one false, say at which input.
  Laid BY PROGRAM, IN A SANDBOX (cutbox-rows.mjs): the forced cells as the released guide's own fill.sh prints them over the translation b4b0bed09c91a80a… (all of the seat's roots in one cut). By AI agents, Wed Nov 11 2026. No macro, syntax, notation, axiom, sorry.
-/
import Derived.Test.YtecojcdmigmnhaaChecked
import GoSem.Claim
import GoSem.ClaimJoined
import GoSem.ClaimMapViews
import Derived.JoinedTies
import Derived.KernelRfl
namespace Go.Proofs.Ytecojcdmigmnhaa
/- THE CELL 'sum', in the pinned program and in every row, IS THE sha256 OF THE DUMP (.gsa) THAT YtecojcdmigmnhaaProg.lean LOADS. Nothing in Lean hashes anything: it is a label: what it is worth is what the hold of that sum in a sandbox is worth. -/
noncomputable def Try.pinned : Pinned := { name := "ytecojcdmigmnhaa", sum := "b4b0bed09c91a80a509dad21cccea3338d5271b7aae27d3e02b37ca62d15ac42", checked := Try.checked }
namespace Rows
def none {H : Type} : Left H := { results := [], args := [] }

/-- 'runaroundlaw16.AheadClears': WHATEVER THE INPUT: true; the input reads as it did. -/
def aheadClearsSpec : ChangeSpec := { name := "aheadClears", fn := fun _ => fun
  | [d1, d2] => { results := [.lit (.bool true)], args := [d1, d2] }
  | _ => none }
def aheadClearsRow : OpenClaim := { program := "ytecojcdmigmnhaa", sum := "b4b0bed09c91a80a509dad21cccea3338d5271b7aae27d3e02b37ca62d15ac42", func := "runaround/runaroundlaw16.AheadClears", spec := "aheadClears", unfollowed := true, recurses := true, apart := false }
def AheadClearsSaid : Prop := aheadClearsRow.holds Try.pinned (OpenSpec.ofChange aheadClearsSpec)

/-- ITS FALSE NEIGHBOUR: 'it returns false'. Refute it at one input. -/
def aheadClearsWrong : ChangeSpec := { name := "aheadClears", fn := fun _ => fun
  | [d1, d2] => { results := [.lit (.bool false)], args := [d1, d2] }
  | _ => none }
def AheadClearsWrongFalsely : Prop := aheadClearsRow.holds Try.pinned (OpenSpec.ofChange aheadClearsWrong)

/-- 'runaroundlaw10.SpaceFirst': WHATEVER THE INPUT: true; the input reads as it did. -/
def spaceFirstSpec : ChangeSpec := { name := "spaceFirst", fn := fun _ => fun
  | [d1, d2, d3, d4] => { results := [.lit (.bool true)], args := [d1, d2, d3, d4] }
  | _ => none }
def spaceFirstRow : OpenClaim := { program := "ytecojcdmigmnhaa", sum := "b4b0bed09c91a80a509dad21cccea3338d5271b7aae27d3e02b37ca62d15ac42", func := "runaround/runaroundlaw10.SpaceFirst", spec := "spaceFirst", inPlace := ["slices.overlaps[runaround/shelf.Shelf]"], unfollowed := true, recurses := true, apart := false }
def SpaceFirstSaid : Prop := spaceFirstRow.holds Try.pinned (OpenSpec.ofChange spaceFirstSpec)

/-- ITS FALSE NEIGHBOUR: 'it returns false'. Refute it at one input. -/
def spaceFirstWrong : ChangeSpec := { name := "spaceFirst", fn := fun _ => fun
  | [d1, d2, d3, d4] => { results := [.lit (.bool false)], args := [d1, d2, d3, d4] }
  | _ => none }
def SpaceFirstWrongFalsely : Prop := spaceFirstRow.holds Try.pinned (OpenSpec.ofChange spaceFirstWrong)

/-- 'runaroundlaw10.SpaceSides': WHATEVER THE INPUT: true; the input reads as it did. -/
def spaceSidesSpec : ChangeSpec := { name := "spaceSides", fn := fun _ => fun
  | [d1, d2] => { results := [.lit (.bool true)], args := [d1, d2] }
  | _ => none }
def spaceSidesRow : OpenClaim := { program := "ytecojcdmigmnhaa", sum := "b4b0bed09c91a80a509dad21cccea3338d5271b7aae27d3e02b37ca62d15ac42", func := "runaround/runaroundlaw10.SpaceSides", spec := "spaceSides", inPlace := ["slices.overlaps[runaround/shelf.Shelf]"], unfollowed := true, recurses := true, apart := false }
def SpaceSidesSaid : Prop := spaceSidesRow.holds Try.pinned (OpenSpec.ofChange spaceSidesSpec)

/-- ITS FALSE NEIGHBOUR: 'it returns false'. Refute it at one input. -/
def spaceSidesWrong : ChangeSpec := { name := "spaceSides", fn := fun _ => fun
  | [d1, d2] => { results := [.lit (.bool false)], args := [d1, d2] }
  | _ => none }
def SpaceSidesWrongFalsely : Prop := spaceSidesRow.holds Try.pinned (OpenSpec.ofChange spaceSidesWrong)

/-- 'runaroundlaw13.LineGreedy': WHATEVER THE INPUT: true; the input reads as it did. -/
def lineGreedySpec : ChangeSpec := { name := "lineGreedy", fn := fun _ => fun
  | [d1, d2, d3, d4, d5] => { results := [.lit (.bool true)], args := [d1, d2, d3, d4, d5] }
  | _ => none }
def lineGreedyRow : OpenClaim := { program := "ytecojcdmigmnhaa", sum := "b4b0bed09c91a80a509dad21cccea3338d5271b7aae27d3e02b37ca62d15ac42", func := "runaround/runaroundlaw13.LineGreedy", spec := "lineGreedy", inPlace := ["slices.overlaps[runaround/shelf.Shelf]"], unfollowed := true, recurses := true, apart := false }
def LineGreedySaid : Prop := lineGreedyRow.holds Try.pinned (OpenSpec.ofChange lineGreedySpec)

/-- ITS FALSE NEIGHBOUR: 'it returns false'. Refute it at one input. -/
def lineGreedyWrong : ChangeSpec := { name := "lineGreedy", fn := fun _ => fun
  | [d1, d2, d3, d4, d5] => { results := [.lit (.bool false)], args := [d1, d2, d3, d4, d5] }
  | _ => none }
def LineGreedyWrongFalsely : Prop := lineGreedyRow.holds Try.pinned (OpenSpec.ofChange lineGreedyWrong)

/-- 'runaroundlaw13.LineAlone': WHATEVER THE INPUT: true; the input reads as it did. -/
def lineAloneSpec : ChangeSpec := { name := "lineAlone", fn := fun _ => fun
  | [d1, d2, d3, d4] => { results := [.lit (.bool true)], args := [d1, d2, d3, d4] }
  | _ => none }
def lineAloneRow : OpenClaim := { program := "ytecojcdmigmnhaa", sum := "b4b0bed09c91a80a509dad21cccea3338d5271b7aae27d3e02b37ca62d15ac42", func := "runaround/runaroundlaw13.LineAlone", spec := "lineAlone", inPlace := ["slices.overlaps[runaround/shelf.Shelf]"], unfollowed := true, recurses := true, apart := false }
def LineAloneSaid : Prop := lineAloneRow.holds Try.pinned (OpenSpec.ofChange lineAloneSpec)

/-- ITS FALSE NEIGHBOUR: 'it returns false'. Refute it at one input. -/
def lineAloneWrong : ChangeSpec := { name := "lineAlone", fn := fun _ => fun
  | [d1, d2, d3, d4] => { results := [.lit (.bool false)], args := [d1, d2, d3, d4] }
  | _ => none }
def LineAloneWrongFalsely : Prop := lineAloneRow.holds Try.pinned (OpenSpec.ofChange lineAloneWrong)

/-- 'runaroundlaw13.LineFirst': WHATEVER THE INPUT: true; the input reads as it did. -/
def lineFirstSpec : ChangeSpec := { name := "lineFirst", fn := fun _ => fun
  | [d1, d2, d3, d4, d5] => { results := [.lit (.bool true)], args := [d1, d2, d3, d4, d5] }
  | _ => none }
def lineFirstRow : OpenClaim := { program := "ytecojcdmigmnhaa", sum := "b4b0bed09c91a80a509dad21cccea3338d5271b7aae27d3e02b37ca62d15ac42", func := "runaround/runaroundlaw13.LineFirst", spec := "lineFirst", inPlace := ["slices.overlaps[runaround/shelf.Shelf]"], unfollowed := true, recurses := true, apart := false }
def LineFirstSaid : Prop := lineFirstRow.holds Try.pinned (OpenSpec.ofChange lineFirstSpec)

/-- ITS FALSE NEIGHBOUR: 'it returns false'. Refute it at one input. -/
def lineFirstWrong : ChangeSpec := { name := "lineFirst", fn := fun _ => fun
  | [d1, d2, d3, d4, d5] => { results := [.lit (.bool false)], args := [d1, d2, d3, d4, d5] }
  | _ => none }
def LineFirstWrongFalsely : Prop := lineFirstRow.holds Try.pinned (OpenSpec.ofChange lineFirstWrong)

/-- 'runaroundlaw11.PlaceApart': WHATEVER THE INPUT: true; the input reads as it did. -/
def placeApartSpec : ChangeSpec := { name := "placeApart", fn := fun _ => fun
  | [d] => { results := [.lit (.bool true)], args := [d] }
  | _ => none }
def placeApartRow : OpenClaim := { program := "ytecojcdmigmnhaa", sum := "b4b0bed09c91a80a509dad21cccea3338d5271b7aae27d3e02b37ca62d15ac42", func := "runaround/runaroundlaw11.PlaceApart", spec := "placeApart", inPlace := ["slices.overlaps[runaround/shelf.Shelf]"], unfollowed := true, recurses := true, apart := false }
def PlaceApartSaid : Prop := placeApartRow.holds Try.pinned (OpenSpec.ofChange placeApartSpec)

/-- ITS FALSE NEIGHBOUR: 'it returns false'. Refute it at one input. -/
def placeApartWrong : ChangeSpec := { name := "placeApart", fn := fun _ => fun
  | [d] => { results := [.lit (.bool false)], args := [d] }
  | _ => none }
def PlaceApartWrongFalsely : Prop := placeApartRow.holds Try.pinned (OpenSpec.ofChange placeApartWrong)

/-- 'runaroundlaw13.LineBreaks': WHATEVER THE INPUT: true; the input reads as it did. -/
def lineBreaksSpec : ChangeSpec := { name := "lineBreaks", fn := fun _ => fun
  | [d1, d2, d3, d4, d5] => { results := [.lit (.bool true)], args := [d1, d2, d3, d4, d5] }
  | _ => none }
def lineBreaksRow : OpenClaim := { program := "ytecojcdmigmnhaa", sum := "b4b0bed09c91a80a509dad21cccea3338d5271b7aae27d3e02b37ca62d15ac42", func := "runaround/runaroundlaw13.LineBreaks", spec := "lineBreaks", inPlace := ["slices.overlaps[runaround/shelf.Shelf]"], unfollowed := true, recurses := true, apart := false }
def LineBreaksSaid : Prop := lineBreaksRow.holds Try.pinned (OpenSpec.ofChange lineBreaksSpec)

/-- ITS FALSE NEIGHBOUR: 'it returns false'. Refute it at one input. -/
def lineBreaksWrong : ChangeSpec := { name := "lineBreaks", fn := fun _ => fun
  | [d1, d2, d3, d4, d5] => { results := [.lit (.bool false)], args := [d1, d2, d3, d4, d5] }
  | _ => none }
def LineBreaksWrongFalsely : Prop := lineBreaksRow.holds Try.pinned (OpenSpec.ofChange lineBreaksWrong)

/-- 'runaroundlaw13.LineApart': WHATEVER THE INPUT: true; the input reads as it did. -/
def lineApartSpec : ChangeSpec := { name := "lineApart", fn := fun _ => fun
  | [d1, d2, d3, d4, d5] => { results := [.lit (.bool true)], args := [d1, d2, d3, d4, d5] }
  | _ => none }
def lineApartRow : OpenClaim := { program := "ytecojcdmigmnhaa", sum := "b4b0bed09c91a80a509dad21cccea3338d5271b7aae27d3e02b37ca62d15ac42", func := "runaround/runaroundlaw13.LineApart", spec := "lineApart", inPlace := ["slices.overlaps[runaround/shelf.Shelf]"], unfollowed := true, recurses := true, apart := false }
def LineApartSaid : Prop := lineApartRow.holds Try.pinned (OpenSpec.ofChange lineApartSpec)

/-- ITS FALSE NEIGHBOUR: 'it returns false'. Refute it at one input. -/
def lineApartWrong : ChangeSpec := { name := "lineApart", fn := fun _ => fun
  | [d1, d2, d3, d4, d5] => { results := [.lit (.bool false)], args := [d1, d2, d3, d4, d5] }
  | _ => none }
def LineApartWrongFalsely : Prop := lineApartRow.holds Try.pinned (OpenSpec.ofChange lineApartWrong)

/- THE SECOND FORM. 'bulk': how many values and letters a reading holds, each counted each time it is reached (what is shared counts as often as it is met; a slice's spare places count too). A statement '..UptoSaid' is the law's where the arguments, and the package variables that the reading takes, are together of bulk at most 1048576: NARROWER than '..Said'. Prove '..Said' where nothing that the law and all that it calls make is longer than what came in: it says more and counts as full. Else prove '..UptoSaid'. A law counts once. -/
mutual
def uptoBulk {H : Type} : DataW H → Nat
  | .lit (.string bytes) => bytes.length + 1
  | .lit _ => 1
  | .nil => 1
  | .ptr d => uptoBulk d + 1
  | .slice elems spare => uptoBulkAll elems + uptoBulkAll spare + 1
  | .agg parts => uptoBulkAll parts + 1
  | .iface _ d => uptoBulk d + 1
  | .map entries => uptoBulkEntries entries + 1
  | .held _ => 1
def uptoBulkAll {H : Type} : List (DataW H) → Nat
  | [] => 0
  | d :: r => uptoBulk d + uptoBulkAll r
def uptoBulkEntries {H : Type} : List (Lit × DataW H) → Nat
  | [] => 0
  | x :: r => uptoBulkEntry x + uptoBulkEntries r
def uptoBulkEntry {H : Type} : Lit × DataW H → Nat
  | (.string bytes, d) => bytes.length + uptoBulk d + 1
  | (_, d) => uptoBulk d + 1
 end
def uptoSmall : (H : Type) → List (DataW H) → Bool := fun _ ds => decide (uptoBulkAll ds ≤ 1048576)
def OpenSpec.upto (s : _root_.Go.ChangeSpec) : _root_.Go.OpenSpec := { _root_.Go.OpenSpec.ofChange s with cond := some uptoSmall }

/-- 'runaroundlaw16.AheadClears', WHERE WHAT IT READS IS OF BULK AT MOST 1048576: true; the input reads as it did. -/
def aheadClearsUptoRow : OpenClaim := { program := "ytecojcdmigmnhaa", sum := "b4b0bed09c91a80a509dad21cccea3338d5271b7aae27d3e02b37ca62d15ac42", func := "runaround/runaroundlaw16.AheadClears", spec := "aheadClears", unfollowed := true, recurses := true, apart := false, narrowed := true }
def AheadClearsUptoSaid : Prop := aheadClearsUptoRow.holds Try.pinned (OpenSpec.upto aheadClearsSpec)

/-- 'runaroundlaw10.SpaceFirst', WHERE WHAT IT READS IS OF BULK AT MOST 1048576: true; the input reads as it did. -/
def spaceFirstUptoRow : OpenClaim := { program := "ytecojcdmigmnhaa", sum := "b4b0bed09c91a80a509dad21cccea3338d5271b7aae27d3e02b37ca62d15ac42", func := "runaround/runaroundlaw10.SpaceFirst", spec := "spaceFirst", inPlace := ["slices.overlaps[runaround/shelf.Shelf]"], unfollowed := true, recurses := true, apart := false, narrowed := true }
def SpaceFirstUptoSaid : Prop := spaceFirstUptoRow.holds Try.pinned (OpenSpec.upto spaceFirstSpec)

/-- 'runaroundlaw10.SpaceSides', WHERE WHAT IT READS IS OF BULK AT MOST 1048576: true; the input reads as it did. -/
def spaceSidesUptoRow : OpenClaim := { program := "ytecojcdmigmnhaa", sum := "b4b0bed09c91a80a509dad21cccea3338d5271b7aae27d3e02b37ca62d15ac42", func := "runaround/runaroundlaw10.SpaceSides", spec := "spaceSides", inPlace := ["slices.overlaps[runaround/shelf.Shelf]"], unfollowed := true, recurses := true, apart := false, narrowed := true }
def SpaceSidesUptoSaid : Prop := spaceSidesUptoRow.holds Try.pinned (OpenSpec.upto spaceSidesSpec)

/-- 'runaroundlaw13.LineGreedy', WHERE WHAT IT READS IS OF BULK AT MOST 1048576: true; the input reads as it did. -/
def lineGreedyUptoRow : OpenClaim := { program := "ytecojcdmigmnhaa", sum := "b4b0bed09c91a80a509dad21cccea3338d5271b7aae27d3e02b37ca62d15ac42", func := "runaround/runaroundlaw13.LineGreedy", spec := "lineGreedy", inPlace := ["slices.overlaps[runaround/shelf.Shelf]"], unfollowed := true, recurses := true, apart := false, narrowed := true }
def LineGreedyUptoSaid : Prop := lineGreedyUptoRow.holds Try.pinned (OpenSpec.upto lineGreedySpec)

/-- 'runaroundlaw13.LineAlone', WHERE WHAT IT READS IS OF BULK AT MOST 1048576: true; the input reads as it did. -/
def lineAloneUptoRow : OpenClaim := { program := "ytecojcdmigmnhaa", sum := "b4b0bed09c91a80a509dad21cccea3338d5271b7aae27d3e02b37ca62d15ac42", func := "runaround/runaroundlaw13.LineAlone", spec := "lineAlone", inPlace := ["slices.overlaps[runaround/shelf.Shelf]"], unfollowed := true, recurses := true, apart := false, narrowed := true }
def LineAloneUptoSaid : Prop := lineAloneUptoRow.holds Try.pinned (OpenSpec.upto lineAloneSpec)

/-- 'runaroundlaw13.LineFirst', WHERE WHAT IT READS IS OF BULK AT MOST 1048576: true; the input reads as it did. -/
def lineFirstUptoRow : OpenClaim := { program := "ytecojcdmigmnhaa", sum := "b4b0bed09c91a80a509dad21cccea3338d5271b7aae27d3e02b37ca62d15ac42", func := "runaround/runaroundlaw13.LineFirst", spec := "lineFirst", inPlace := ["slices.overlaps[runaround/shelf.Shelf]"], unfollowed := true, recurses := true, apart := false, narrowed := true }
def LineFirstUptoSaid : Prop := lineFirstUptoRow.holds Try.pinned (OpenSpec.upto lineFirstSpec)

/-- 'runaroundlaw11.PlaceApart', WHERE WHAT IT READS IS OF BULK AT MOST 1048576: true; the input reads as it did. -/
def placeApartUptoRow : OpenClaim := { program := "ytecojcdmigmnhaa", sum := "b4b0bed09c91a80a509dad21cccea3338d5271b7aae27d3e02b37ca62d15ac42", func := "runaround/runaroundlaw11.PlaceApart", spec := "placeApart", inPlace := ["slices.overlaps[runaround/shelf.Shelf]"], unfollowed := true, recurses := true, apart := false, narrowed := true }
def PlaceApartUptoSaid : Prop := placeApartUptoRow.holds Try.pinned (OpenSpec.upto placeApartSpec)

/-- 'runaroundlaw13.LineBreaks', WHERE WHAT IT READS IS OF BULK AT MOST 1048576: true; the input reads as it did. -/
def lineBreaksUptoRow : OpenClaim := { program := "ytecojcdmigmnhaa", sum := "b4b0bed09c91a80a509dad21cccea3338d5271b7aae27d3e02b37ca62d15ac42", func := "runaround/runaroundlaw13.LineBreaks", spec := "lineBreaks", inPlace := ["slices.overlaps[runaround/shelf.Shelf]"], unfollowed := true, recurses := true, apart := false, narrowed := true }
def LineBreaksUptoSaid : Prop := lineBreaksUptoRow.holds Try.pinned (OpenSpec.upto lineBreaksSpec)

/-- 'runaroundlaw13.LineApart', WHERE WHAT IT READS IS OF BULK AT MOST 1048576: true; the input reads as it did. -/
def lineApartUptoRow : OpenClaim := { program := "ytecojcdmigmnhaa", sum := "b4b0bed09c91a80a509dad21cccea3338d5271b7aae27d3e02b37ca62d15ac42", func := "runaround/runaroundlaw13.LineApart", spec := "lineApart", inPlace := ["slices.overlaps[runaround/shelf.Shelf]"], unfollowed := true, recurses := true, apart := false, narrowed := true }
def LineApartUptoSaid : Prop := lineApartUptoRow.holds Try.pinned (OpenSpec.upto lineApartSpec)

end Rows
end Go.Proofs.Ytecojcdmigmnhaa
