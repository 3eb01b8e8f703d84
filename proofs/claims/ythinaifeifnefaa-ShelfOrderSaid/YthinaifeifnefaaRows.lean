/-
  No cell of these rows narrows 'for every input' (looked for: loops, veiled, ifaces, maps, wideKeys, modest, calm, conditions, laid).
  DERIVED. THE GIVEN ROWS OF THIS SEAT. 12 by the template 'for every input the law returns true; each argument reads behind the call as it read before'; 0 by the template 'total and deterministic' (their statements: YthinaifeifnefaaTotals.lean).
  GIVEN WITH THE SEED: the statements are not yours to turn. If you find one false, say at which input.
  Laid BY PROGRAM, IN A SANDBOX (cutbox-rows.mjs): the forced cells as the released guide's own fill.sh prints them over the translation b2060b6d819b0ad8… (all of the seat's roots in one cut). By AI agents, Wed Nov 11 2026. No macro, syntax, notation, axiom, sorry.
-/
import Derived.Test.YthinaifeifnefaaChecked
import GoSem.Claim
import GoSem.ClaimJoined
import GoSem.ClaimMapViews
import Derived.JoinedTies
import Derived.KernelRfl
namespace Go.Proofs.Ythinaifeifnefaa
/- THE CELL 'sum', in the pinned program and in every row, IS THE sha256 OF THE DUMP (.gsa) THAT YthinaifeifnefaaProg.lean LOADS. Nothing in Lean hashes anything: it is a label: what it is worth is what the hold of that sum in a sandbox is worth. -/
noncomputable def Try.pinned : Pinned := { name := "ythinaifeifnefaa", sum := "b2060b6d819b0ad89076eb79d70a4ad2c7690097f659ba852401cfc2600057b7", checked := Try.checked }
namespace Rows
def none {H : Type} : Left H := { results := [], args := [] }

/-- 'runaroundlaw09.ShelfLays': WHATEVER THE INPUT: true; the input reads as it did. -/
def shelfLaysSpec : ChangeSpec := { name := "shelfLays", fn := fun _ => fun
  | [d] => { results := [.lit (.bool true)], args := [d] }
  | _ => none }
def shelfLaysRow : OpenClaim := { program := "ythinaifeifnefaa", sum := "b2060b6d819b0ad89076eb79d70a4ad2c7690097f659ba852401cfc2600057b7", func := "runaround/runaroundlaw09.ShelfLays", spec := "shelfLays", inPlace := ["slices.overlaps[runaround/shelf.Shelf]"], unfollowed := true, recurses := true, apart := false }
def ShelfLaysSaid : Prop := shelfLaysRow.holds Try.pinned (OpenSpec.ofChange shelfLaysSpec)

/-- ITS FALSE NEIGHBOUR: 'it returns false'. Refute it at one input. -/
def shelfLaysWrong : ChangeSpec := { name := "shelfLays", fn := fun _ => fun
  | [d] => { results := [.lit (.bool false)], args := [d] }
  | _ => none }
def ShelfLaysWrongFalsely : Prop := shelfLaysRow.holds Try.pinned (OpenSpec.ofChange shelfLaysWrong)

/-- 'runaroundlaw09.ShelfOrder': WHATEVER THE INPUT: true; the input reads as it did. -/
def shelfOrderSpec : ChangeSpec := { name := "shelfOrder", fn := fun _ => fun
  | [d1, d2, d3, d4] => { results := [.lit (.bool true)], args := [d1, d2, d3, d4] }
  | _ => none }
def shelfOrderRow : OpenClaim := { program := "ythinaifeifnefaa", sum := "b2060b6d819b0ad89076eb79d70a4ad2c7690097f659ba852401cfc2600057b7", func := "runaround/runaroundlaw09.ShelfOrder", spec := "shelfOrder", inPlace := ["slices.overlaps[runaround/shelf.Shelf]"], unfollowed := true, recurses := true, apart := false }
def ShelfOrderSaid : Prop := shelfOrderRow.holds Try.pinned (OpenSpec.ofChange shelfOrderSpec)

/-- ITS FALSE NEIGHBOUR: 'it returns false'. Refute it at one input. -/
def shelfOrderWrong : ChangeSpec := { name := "shelfOrder", fn := fun _ => fun
  | [d1, d2, d3, d4] => { results := [.lit (.bool false)], args := [d1, d2, d3, d4] }
  | _ => none }
def ShelfOrderWrongFalsely : Prop := shelfOrderRow.holds Try.pinned (OpenSpec.ofChange shelfOrderWrong)

/-- 'runaroundlaw09.ShelfRows': WHATEVER THE INPUT: true; the input reads as it did. -/
def shelfRowsSpec : ChangeSpec := { name := "shelfRows", fn := fun _ => fun
  | [d1, d2, d3] => { results := [.lit (.bool true)], args := [d1, d2, d3] }
  | _ => none }
def shelfRowsRow : OpenClaim := { program := "ythinaifeifnefaa", sum := "b2060b6d819b0ad89076eb79d70a4ad2c7690097f659ba852401cfc2600057b7", func := "runaround/runaroundlaw09.ShelfRows", spec := "shelfRows", inPlace := ["slices.overlaps[runaround/shelf.Shelf]"], unfollowed := true, recurses := true, apart := false }
def ShelfRowsSaid : Prop := shelfRowsRow.holds Try.pinned (OpenSpec.ofChange shelfRowsSpec)

/-- ITS FALSE NEIGHBOUR: 'it returns false'. Refute it at one input. -/
def shelfRowsWrong : ChangeSpec := { name := "shelfRows", fn := fun _ => fun
  | [d1, d2, d3] => { results := [.lit (.bool false)], args := [d1, d2, d3] }
  | _ => none }
def ShelfRowsWrongFalsely : Prop := shelfRowsRow.holds Try.pinned (OpenSpec.ofChange shelfRowsWrong)

/-- 'runaroundlaw09.ShelfOne': WHATEVER THE INPUT: true; the input reads as it did. -/
def shelfOneSpec : ChangeSpec := { name := "shelfOne", fn := fun _ => fun
  | [d] => { results := [.lit (.bool true)], args := [d] }
  | _ => none }
def shelfOneRow : OpenClaim := { program := "ythinaifeifnefaa", sum := "b2060b6d819b0ad89076eb79d70a4ad2c7690097f659ba852401cfc2600057b7", func := "runaround/runaroundlaw09.ShelfOne", spec := "shelfOne", inPlace := ["slices.overlaps[runaround/shelf.Shelf]"], unfollowed := true, recurses := true, apart := false }
def ShelfOneSaid : Prop := shelfOneRow.holds Try.pinned (OpenSpec.ofChange shelfOneSpec)

/-- ITS FALSE NEIGHBOUR: 'it returns false'. Refute it at one input. -/
def shelfOneWrong : ChangeSpec := { name := "shelfOne", fn := fun _ => fun
  | [d] => { results := [.lit (.bool false)], args := [d] }
  | _ => none }
def ShelfOneWrongFalsely : Prop := shelfOneRow.holds Try.pinned (OpenSpec.ofChange shelfOneWrong)

/-- 'runaroundlaw16.AheadClears': WHATEVER THE INPUT: true; the input reads as it did. -/
def aheadClearsSpec : ChangeSpec := { name := "aheadClears", fn := fun _ => fun
  | [d1, d2] => { results := [.lit (.bool true)], args := [d1, d2] }
  | _ => none }
def aheadClearsRow : OpenClaim := { program := "ythinaifeifnefaa", sum := "b2060b6d819b0ad89076eb79d70a4ad2c7690097f659ba852401cfc2600057b7", func := "runaround/runaroundlaw16.AheadClears", spec := "aheadClears", unfollowed := true, recurses := true, apart := false }
def AheadClearsSaid : Prop := aheadClearsRow.holds Try.pinned (OpenSpec.ofChange aheadClearsSpec)

/-- ITS FALSE NEIGHBOUR: 'it returns false'. Refute it at one input. -/
def aheadClearsWrong : ChangeSpec := { name := "aheadClears", fn := fun _ => fun
  | [d1, d2] => { results := [.lit (.bool false)], args := [d1, d2] }
  | _ => none }
def AheadClearsWrongFalsely : Prop := aheadClearsRow.holds Try.pinned (OpenSpec.ofChange aheadClearsWrong)

/-- 'runaroundlaw09.ShelfBands': WHATEVER THE INPUT: true; the input reads as it did. -/
def shelfBandsSpec : ChangeSpec := { name := "shelfBands", fn := fun _ => fun
  | [d1, d2, d3, d4] => { results := [.lit (.bool true)], args := [d1, d2, d3, d4] }
  | _ => none }
def shelfBandsRow : OpenClaim := { program := "ythinaifeifnefaa", sum := "b2060b6d819b0ad89076eb79d70a4ad2c7690097f659ba852401cfc2600057b7", func := "runaround/runaroundlaw09.ShelfBands", spec := "shelfBands", inPlace := ["slices.overlaps[runaround/shelf.Shelf]"], unfollowed := true, recurses := true, apart := false }
def ShelfBandsSaid : Prop := shelfBandsRow.holds Try.pinned (OpenSpec.ofChange shelfBandsSpec)

/-- ITS FALSE NEIGHBOUR: 'it returns false'. Refute it at one input. -/
def shelfBandsWrong : ChangeSpec := { name := "shelfBands", fn := fun _ => fun
  | [d1, d2, d3, d4] => { results := [.lit (.bool false)], args := [d1, d2, d3, d4] }
  | _ => none }
def ShelfBandsWrongFalsely : Prop := shelfBandsRow.holds Try.pinned (OpenSpec.ofChange shelfBandsWrong)

/-- 'runaroundlaw09.ShelfShape': WHATEVER THE INPUT: true; the input reads as it did. -/
def shelfShapeSpec : ChangeSpec := { name := "shelfShape", fn := fun _ => fun
  | [d] => { results := [.lit (.bool true)], args := [d] }
  | _ => none }
def shelfShapeRow : OpenClaim := { program := "ythinaifeifnefaa", sum := "b2060b6d819b0ad89076eb79d70a4ad2c7690097f659ba852401cfc2600057b7", func := "runaround/runaroundlaw09.ShelfShape", spec := "shelfShape", inPlace := ["slices.overlaps[runaround/shelf.Shelf]"], unfollowed := true, recurses := true, apart := false }
def ShelfShapeSaid : Prop := shelfShapeRow.holds Try.pinned (OpenSpec.ofChange shelfShapeSpec)

/-- ITS FALSE NEIGHBOUR: 'it returns false'. Refute it at one input. -/
def shelfShapeWrong : ChangeSpec := { name := "shelfShape", fn := fun _ => fun
  | [d] => { results := [.lit (.bool false)], args := [d] }
  | _ => none }
def ShelfShapeWrongFalsely : Prop := shelfShapeRow.holds Try.pinned (OpenSpec.ofChange shelfShapeWrong)

/-- 'runaroundlaw10.SpaceFirst': WHATEVER THE INPUT: true; the input reads as it did. -/
def spaceFirstSpec : ChangeSpec := { name := "spaceFirst", fn := fun _ => fun
  | [d1, d2, d3, d4] => { results := [.lit (.bool true)], args := [d1, d2, d3, d4] }
  | _ => none }
def spaceFirstRow : OpenClaim := { program := "ythinaifeifnefaa", sum := "b2060b6d819b0ad89076eb79d70a4ad2c7690097f659ba852401cfc2600057b7", func := "runaround/runaroundlaw10.SpaceFirst", spec := "spaceFirst", inPlace := ["slices.overlaps[runaround/shelf.Shelf]"], unfollowed := true, recurses := true, apart := false }
def SpaceFirstSaid : Prop := spaceFirstRow.holds Try.pinned (OpenSpec.ofChange spaceFirstSpec)

/-- ITS FALSE NEIGHBOUR: 'it returns false'. Refute it at one input. -/
def spaceFirstWrong : ChangeSpec := { name := "spaceFirst", fn := fun _ => fun
  | [d1, d2, d3, d4] => { results := [.lit (.bool false)], args := [d1, d2, d3, d4] }
  | _ => none }
def SpaceFirstWrongFalsely : Prop := spaceFirstRow.holds Try.pinned (OpenSpec.ofChange spaceFirstWrong)

/-- 'runaroundlaw10.SpaceFrees': WHATEVER THE INPUT: true; the input reads as it did. -/
def spaceFreesSpec : ChangeSpec := { name := "spaceFrees", fn := fun _ => fun
  | [d1, d2, d3, d4, d5] => { results := [.lit (.bool true)], args := [d1, d2, d3, d4, d5] }
  | _ => none }
def spaceFreesRow : OpenClaim := { program := "ythinaifeifnefaa", sum := "b2060b6d819b0ad89076eb79d70a4ad2c7690097f659ba852401cfc2600057b7", func := "runaround/runaroundlaw10.SpaceFrees", spec := "spaceFrees", inPlace := ["slices.overlaps[runaround/shelf.Shelf]"], unfollowed := true, recurses := true, apart := false }
def SpaceFreesSaid : Prop := spaceFreesRow.holds Try.pinned (OpenSpec.ofChange spaceFreesSpec)

/-- ITS FALSE NEIGHBOUR: 'it returns false'. Refute it at one input. -/
def spaceFreesWrong : ChangeSpec := { name := "spaceFrees", fn := fun _ => fun
  | [d1, d2, d3, d4, d5] => { results := [.lit (.bool false)], args := [d1, d2, d3, d4, d5] }
  | _ => none }
def SpaceFreesWrongFalsely : Prop := spaceFreesRow.holds Try.pinned (OpenSpec.ofChange spaceFreesWrong)

/-- 'runaroundlaw10.SpaceSides': WHATEVER THE INPUT: true; the input reads as it did. -/
def spaceSidesSpec : ChangeSpec := { name := "spaceSides", fn := fun _ => fun
  | [d1, d2] => { results := [.lit (.bool true)], args := [d1, d2] }
  | _ => none }
def spaceSidesRow : OpenClaim := { program := "ythinaifeifnefaa", sum := "b2060b6d819b0ad89076eb79d70a4ad2c7690097f659ba852401cfc2600057b7", func := "runaround/runaroundlaw10.SpaceSides", spec := "spaceSides", inPlace := ["slices.overlaps[runaround/shelf.Shelf]"], unfollowed := true, recurses := true, apart := false }
def SpaceSidesSaid : Prop := spaceSidesRow.holds Try.pinned (OpenSpec.ofChange spaceSidesSpec)

/-- ITS FALSE NEIGHBOUR: 'it returns false'. Refute it at one input. -/
def spaceSidesWrong : ChangeSpec := { name := "spaceSides", fn := fun _ => fun
  | [d1, d2] => { results := [.lit (.bool false)], args := [d1, d2] }
  | _ => none }
def SpaceSidesWrongFalsely : Prop := spaceSidesRow.holds Try.pinned (OpenSpec.ofChange spaceSidesWrong)

/-- 'runaroundlaw10.SpaceTells': WHATEVER THE INPUT: true; the input reads as it did. -/
def spaceTellsSpec : ChangeSpec := { name := "spaceTells", fn := fun _ => fun
  | [d1, d2, d3] => { results := [.lit (.bool true)], args := [d1, d2, d3] }
  | _ => none }
def spaceTellsRow : OpenClaim := { program := "ythinaifeifnefaa", sum := "b2060b6d819b0ad89076eb79d70a4ad2c7690097f659ba852401cfc2600057b7", func := "runaround/runaroundlaw10.SpaceTells", spec := "spaceTells", inPlace := ["slices.overlaps[runaround/shelf.Shelf]"], unfollowed := true, recurses := true, apart := false }
def SpaceTellsSaid : Prop := spaceTellsRow.holds Try.pinned (OpenSpec.ofChange spaceTellsSpec)

/-- ITS FALSE NEIGHBOUR: 'it returns false'. Refute it at one input. -/
def spaceTellsWrong : ChangeSpec := { name := "spaceTells", fn := fun _ => fun
  | [d1, d2, d3] => { results := [.lit (.bool false)], args := [d1, d2, d3] }
  | _ => none }
def SpaceTellsWrongFalsely : Prop := spaceTellsRow.holds Try.pinned (OpenSpec.ofChange spaceTellsWrong)

/-- 'runaroundlaw10.SpaceMore': WHATEVER THE INPUT: true; the input reads as it did. -/
def spaceMoreSpec : ChangeSpec := { name := "spaceMore", fn := fun _ => fun
  | [d1, d2, d3, d4] => { results := [.lit (.bool true)], args := [d1, d2, d3, d4] }
  | _ => none }
def spaceMoreRow : OpenClaim := { program := "ythinaifeifnefaa", sum := "b2060b6d819b0ad89076eb79d70a4ad2c7690097f659ba852401cfc2600057b7", func := "runaround/runaroundlaw10.SpaceMore", spec := "spaceMore", inPlace := ["slices.overlaps[runaround/shelf.Shelf]"], unfollowed := true, recurses := true, apart := false }
def SpaceMoreSaid : Prop := spaceMoreRow.holds Try.pinned (OpenSpec.ofChange spaceMoreSpec)

/-- ITS FALSE NEIGHBOUR: 'it returns false'. Refute it at one input. -/
def spaceMoreWrong : ChangeSpec := { name := "spaceMore", fn := fun _ => fun
  | [d1, d2, d3, d4] => { results := [.lit (.bool false)], args := [d1, d2, d3, d4] }
  | _ => none }
def SpaceMoreWrongFalsely : Prop := spaceMoreRow.holds Try.pinned (OpenSpec.ofChange spaceMoreWrong)

/- THE SECOND FORM. 'bulk': how many values and letters a reading holds, each counted each time it is reached (what is shared counts as often as it is met; a slice's spare places count too). A statement '..UptoSaid' is the law's where the arguments, and the package variables that the reading takes, are together of bulk at most 1048576: NARROWER than '..Said'. Prove '..Said' where nothing that the law and all that it calls make is longer than what came in: it says more and counts as full. Else prove '..UptoSaid'. A law counts once. -/
mutual
def uptoBulk {H : Type} : DataW H → Nat
  | .lit (.string bytes) => bytes.length + 1
  | .lit _ => 1
  | .nil => 1
  | .ptr d => uptoBulk d + 1
  | .slice elems spare => uptoBulkAll elems + uptoBulkAll spare + 1
  | .agg parts => uptoBulkAll parts + 1
  | .iface _ d => uptoBulk d + 1
  | .map entries => uptoBulkEntries entries + 1
  | .held _ => 1
def uptoBulkAll {H : Type} : List (DataW H) → Nat
  | [] => 0
  | d :: r => uptoBulk d + uptoBulkAll r
def uptoBulkEntries {H : Type} : List (Lit × DataW H) → Nat
  | [] => 0
  | x :: r => uptoBulkEntry x + uptoBulkEntries r
def uptoBulkEntry {H : Type} : Lit × DataW H → Nat
  | (.string bytes, d) => bytes.length + uptoBulk d + 1
  | (_, d) => uptoBulk d + 1
 end
def uptoSmall : (H : Type) → List (DataW H) → Bool := fun _ ds => decide (uptoBulkAll ds ≤ 1048576)
def OpenSpec.upto (s : _root_.Go.ChangeSpec) : _root_.Go.OpenSpec := { _root_.Go.OpenSpec.ofChange s with cond := some uptoSmall }

/-- 'runaroundlaw09.ShelfLays', WHERE WHAT IT READS IS OF BULK AT MOST 1048576: true; the input reads as it did. -/
def shelfLaysUptoRow : OpenClaim := { program := "ythinaifeifnefaa", sum := "b2060b6d819b0ad89076eb79d70a4ad2c7690097f659ba852401cfc2600057b7", func := "runaround/runaroundlaw09.ShelfLays", spec := "shelfLays", inPlace := ["slices.overlaps[runaround/shelf.Shelf]"], unfollowed := true, recurses := true, apart := false, narrowed := true }
def ShelfLaysUptoSaid : Prop := shelfLaysUptoRow.holds Try.pinned (OpenSpec.upto shelfLaysSpec)

/-- 'runaroundlaw09.ShelfOrder', WHERE WHAT IT READS IS OF BULK AT MOST 1048576: true; the input reads as it did. -/
def shelfOrderUptoRow : OpenClaim := { program := "ythinaifeifnefaa", sum := "b2060b6d819b0ad89076eb79d70a4ad2c7690097f659ba852401cfc2600057b7", func := "runaround/runaroundlaw09.ShelfOrder", spec := "shelfOrder", inPlace := ["slices.overlaps[runaround/shelf.Shelf]"], unfollowed := true, recurses := true, apart := false, narrowed := true }
def ShelfOrderUptoSaid : Prop := shelfOrderUptoRow.holds Try.pinned (OpenSpec.upto shelfOrderSpec)

/-- 'runaroundlaw09.ShelfRows', WHERE WHAT IT READS IS OF BULK AT MOST 1048576: true; the input reads as it did. -/
def shelfRowsUptoRow : OpenClaim := { program := "ythinaifeifnefaa", sum := "b2060b6d819b0ad89076eb79d70a4ad2c7690097f659ba852401cfc2600057b7", func := "runaround/runaroundlaw09.ShelfRows", spec := "shelfRows", inPlace := ["slices.overlaps[runaround/shelf.Shelf]"], unfollowed := true, recurses := true, apart := false, narrowed := true }
def ShelfRowsUptoSaid : Prop := shelfRowsUptoRow.holds Try.pinned (OpenSpec.upto shelfRowsSpec)

/-- 'runaroundlaw09.ShelfOne', WHERE WHAT IT READS IS OF BULK AT MOST 1048576: true; the input reads as it did. -/
def shelfOneUptoRow : OpenClaim := { program := "ythinaifeifnefaa", sum := "b2060b6d819b0ad89076eb79d70a4ad2c7690097f659ba852401cfc2600057b7", func := "runaround/runaroundlaw09.ShelfOne", spec := "shelfOne", inPlace := ["slices.overlaps[runaround/shelf.Shelf]"], unfollowed := true, recurses := true, apart := false, narrowed := true }
def ShelfOneUptoSaid : Prop := shelfOneUptoRow.holds Try.pinned (OpenSpec.upto shelfOneSpec)

/-- 'runaroundlaw16.AheadClears', WHERE WHAT IT READS IS OF BULK AT MOST 1048576: true; the input reads as it did. -/
def aheadClearsUptoRow : OpenClaim := { program := "ythinaifeifnefaa", sum := "b2060b6d819b0ad89076eb79d70a4ad2c7690097f659ba852401cfc2600057b7", func := "runaround/runaroundlaw16.AheadClears", spec := "aheadClears", unfollowed := true, recurses := true, apart := false, narrowed := true }
def AheadClearsUptoSaid : Prop := aheadClearsUptoRow.holds Try.pinned (OpenSpec.upto aheadClearsSpec)

/-- 'runaroundlaw09.ShelfBands', WHERE WHAT IT READS IS OF BULK AT MOST 1048576: true; the input reads as it did. -/
def shelfBandsUptoRow : OpenClaim := { program := "ythinaifeifnefaa", sum := "b2060b6d819b0ad89076eb79d70a4ad2c7690097f659ba852401cfc2600057b7", func := "runaround/runaroundlaw09.ShelfBands", spec := "shelfBands", inPlace := ["slices.overlaps[runaround/shelf.Shelf]"], unfollowed := true, recurses := true, apart := false, narrowed := true }
def ShelfBandsUptoSaid : Prop := shelfBandsUptoRow.holds Try.pinned (OpenSpec.upto shelfBandsSpec)

/-- 'runaroundlaw09.ShelfShape', WHERE WHAT IT READS IS OF BULK AT MOST 1048576: true; the input reads as it did. -/
def shelfShapeUptoRow : OpenClaim := { program := "ythinaifeifnefaa", sum := "b2060b6d819b0ad89076eb79d70a4ad2c7690097f659ba852401cfc2600057b7", func := "runaround/runaroundlaw09.ShelfShape", spec := "shelfShape", inPlace := ["slices.overlaps[runaround/shelf.Shelf]"], unfollowed := true, recurses := true, apart := false, narrowed := true }
def ShelfShapeUptoSaid : Prop := shelfShapeUptoRow.holds Try.pinned (OpenSpec.upto shelfShapeSpec)

/-- 'runaroundlaw10.SpaceFirst', WHERE WHAT IT READS IS OF BULK AT MOST 1048576: true; the input reads as it did. -/
def spaceFirstUptoRow : OpenClaim := { program := "ythinaifeifnefaa", sum := "b2060b6d819b0ad89076eb79d70a4ad2c7690097f659ba852401cfc2600057b7", func := "runaround/runaroundlaw10.SpaceFirst", spec := "spaceFirst", inPlace := ["slices.overlaps[runaround/shelf.Shelf]"], unfollowed := true, recurses := true, apart := false, narrowed := true }
def SpaceFirstUptoSaid : Prop := spaceFirstUptoRow.holds Try.pinned (OpenSpec.upto spaceFirstSpec)

/-- 'runaroundlaw10.SpaceFrees', WHERE WHAT IT READS IS OF BULK AT MOST 1048576: true; the input reads as it did. -/
def spaceFreesUptoRow : OpenClaim := { program := "ythinaifeifnefaa", sum := "b2060b6d819b0ad89076eb79d70a4ad2c7690097f659ba852401cfc2600057b7", func := "runaround/runaroundlaw10.SpaceFrees", spec := "spaceFrees", inPlace := ["slices.overlaps[runaround/shelf.Shelf]"], unfollowed := true, recurses := true, apart := false, narrowed := true }
def SpaceFreesUptoSaid : Prop := spaceFreesUptoRow.holds Try.pinned (OpenSpec.upto spaceFreesSpec)

/-- 'runaroundlaw10.SpaceSides', WHERE WHAT IT READS IS OF BULK AT MOST 1048576: true; the input reads as it did. -/
def spaceSidesUptoRow : OpenClaim := { program := "ythinaifeifnefaa", sum := "b2060b6d819b0ad89076eb79d70a4ad2c7690097f659ba852401cfc2600057b7", func := "runaround/runaroundlaw10.SpaceSides", spec := "spaceSides", inPlace := ["slices.overlaps[runaround/shelf.Shelf]"], unfollowed := true, recurses := true, apart := false, narrowed := true }
def SpaceSidesUptoSaid : Prop := spaceSidesUptoRow.holds Try.pinned (OpenSpec.upto spaceSidesSpec)

/-- 'runaroundlaw10.SpaceTells', WHERE WHAT IT READS IS OF BULK AT MOST 1048576: true; the input reads as it did. -/
def spaceTellsUptoRow : OpenClaim := { program := "ythinaifeifnefaa", sum := "b2060b6d819b0ad89076eb79d70a4ad2c7690097f659ba852401cfc2600057b7", func := "runaround/runaroundlaw10.SpaceTells", spec := "spaceTells", inPlace := ["slices.overlaps[runaround/shelf.Shelf]"], unfollowed := true, recurses := true, apart := false, narrowed := true }
def SpaceTellsUptoSaid : Prop := spaceTellsUptoRow.holds Try.pinned (OpenSpec.upto spaceTellsSpec)

/-- 'runaroundlaw10.SpaceMore', WHERE WHAT IT READS IS OF BULK AT MOST 1048576: true; the input reads as it did. -/
def spaceMoreUptoRow : OpenClaim := { program := "ythinaifeifnefaa", sum := "b2060b6d819b0ad89076eb79d70a4ad2c7690097f659ba852401cfc2600057b7", func := "runaround/runaroundlaw10.SpaceMore", spec := "spaceMore", inPlace := ["slices.overlaps[runaround/shelf.Shelf]"], unfollowed := true, recurses := true, apart := false, narrowed := true }
def SpaceMoreUptoSaid : Prop := spaceMoreUptoRow.holds Try.pinned (OpenSpec.upto spaceMoreSpec)

end Rows
end Go.Proofs.Ythinaifeifnefaa
