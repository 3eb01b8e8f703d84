/-
  No cell of these rows narrows 'for every input' (looked for: loops, veiled, ifaces, maps, wideKeys, modest, calm, conditions, laid).
  DERIVED. THE GIVEN ROWS OF THIS SEAT. 12 by the template 'for every input the law returns true; each argument reads behind the call as it read before'; 0 by the template 'total and deterministic' (their statements: YtnkbbobdhcloeaaTotals.lean).
  GIVEN WITH THE SEED: the statements are not yours to turn. If you find one false, say at which input.
  Laid BY PROGRAM, IN A SANDBOX (cutbox-rows.mjs): the forced cells as the released guide's own fill.sh prints them over the translation 4acc8de14aa250d8… (all of the seat's roots in one cut). By AI agents, Wed Nov 11 2026. No macro, syntax, notation, axiom, sorry.
-/
import Derived.Test.YtnkbbobdhcloeaaChecked
import GoSem.Claim
import GoSem.ClaimJoined
import GoSem.ClaimMapViews
import Derived.JoinedTies
import Derived.KernelRfl
namespace Go.Proofs.Ytnkbbobdhcloeaa
/- THE CELL 'sum', in the pinned program and in every row, IS THE sha256 OF THE DUMP (.gsa) THAT YtnkbbobdhcloeaaProg.lean LOADS. Nothing in Lean hashes anything: it is a label: what it is worth is what the hold of that sum in a sandbox is worth. -/
noncomputable def Try.pinned : Pinned := { name := "ytnkbbobdhcloeaa", sum := "4acc8de14aa250d82421ff4fb1ac9931bd78b56456f4ef483fb12112de827e4d", checked := Try.checked }
namespace Rows
def none {H : Type} : Left H := { results := [], args := [] }

/-- 'runaroundlaw12.AvoidHighest': WHATEVER THE INPUT: true; the input reads as it did. -/
def avoidHighestSpec : ChangeSpec := { name := "avoidHighest", fn := fun _ => fun
  | [d1, d2] => { results := [.lit (.bool true)], args := [d1, d2] }
  | _ => none }
def avoidHighestRow : OpenClaim := { program := "ytnkbbobdhcloeaa", sum := "4acc8de14aa250d82421ff4fb1ac9931bd78b56456f4ef483fb12112de827e4d", func := "runaround/runaroundlaw12.AvoidHighest", spec := "avoidHighest", inPlace := ["slices.overlaps[runaround/shelf.Shelf]"], unfollowed := true, recurses := true, apart := false }
def AvoidHighestSaid : Prop := avoidHighestRow.holds Try.pinned (OpenSpec.ofChange avoidHighestSpec)

/-- ITS FALSE NEIGHBOUR: 'it returns false'. Refute it at one input. -/
def avoidHighestWrong : ChangeSpec := { name := "avoidHighest", fn := fun _ => fun
  | [d1, d2] => { results := [.lit (.bool false)], args := [d1, d2] }
  | _ => none }
def AvoidHighestWrongFalsely : Prop := avoidHighestRow.holds Try.pinned (OpenSpec.ofChange avoidHighestWrong)

/-- 'runaroundlaw12.AvoidAlone': WHATEVER THE INPUT: true; the input reads as it did. -/
def avoidAloneSpec : ChangeSpec := { name := "avoidAlone", fn := fun _ => fun
  | [d1, d2, d3] => { results := [.lit (.bool true)], args := [d1, d2, d3] }
  | _ => none }
def avoidAloneRow : OpenClaim := { program := "ytnkbbobdhcloeaa", sum := "4acc8de14aa250d82421ff4fb1ac9931bd78b56456f4ef483fb12112de827e4d", func := "runaround/runaroundlaw12.AvoidAlone", spec := "avoidAlone", inPlace := ["slices.overlaps[runaround/shelf.Shelf]"], unfollowed := true, recurses := true, apart := false }
def AvoidAloneSaid : Prop := avoidAloneRow.holds Try.pinned (OpenSpec.ofChange avoidAloneSpec)

/-- ITS FALSE NEIGHBOUR: 'it returns false'. Refute it at one input. -/
def avoidAloneWrong : ChangeSpec := { name := "avoidAlone", fn := fun _ => fun
  | [d1, d2, d3] => { results := [.lit (.bool false)], args := [d1, d2, d3] }
  | _ => none }
def AvoidAloneWrongFalsely : Prop := avoidAloneRow.holds Try.pinned (OpenSpec.ofChange avoidAloneWrong)

/-- 'runaroundlaw12.AvoidRoom': WHATEVER THE INPUT: true; the input reads as it did. -/
def avoidRoomSpec : ChangeSpec := { name := "avoidRoom", fn := fun _ => fun
  | [d1, d2, d3, d4] => { results := [.lit (.bool true)], args := [d1, d2, d3, d4] }
  | _ => none }
def avoidRoomRow : OpenClaim := { program := "ytnkbbobdhcloeaa", sum := "4acc8de14aa250d82421ff4fb1ac9931bd78b56456f4ef483fb12112de827e4d", func := "runaround/runaroundlaw12.AvoidRoom", spec := "avoidRoom", inPlace := ["slices.overlaps[runaround/shelf.Shelf]"], unfollowed := true, recurses := true, apart := false }
def AvoidRoomSaid : Prop := avoidRoomRow.holds Try.pinned (OpenSpec.ofChange avoidRoomSpec)

/-- ITS FALSE NEIGHBOUR: 'it returns false'. Refute it at one input. -/
def avoidRoomWrong : ChangeSpec := { name := "avoidRoom", fn := fun _ => fun
  | [d1, d2, d3, d4] => { results := [.lit (.bool false)], args := [d1, d2, d3, d4] }
  | _ => none }
def AvoidRoomWrongFalsely : Prop := avoidRoomRow.holds Try.pinned (OpenSpec.ofChange avoidRoomWrong)

/-- 'runaroundlaw12.AvoidTall': WHATEVER THE INPUT: true; the input reads as it did. -/
def avoidTallSpec : ChangeSpec := { name := "avoidTall", fn := fun _ => fun
  | [d1, d2, d3] => { results := [.lit (.bool true)], args := [d1, d2, d3] }
  | _ => none }
def avoidTallRow : OpenClaim := { program := "ytnkbbobdhcloeaa", sum := "4acc8de14aa250d82421ff4fb1ac9931bd78b56456f4ef483fb12112de827e4d", func := "runaround/runaroundlaw12.AvoidTall", spec := "avoidTall", inPlace := ["slices.overlaps[runaround/shelf.Shelf]"], unfollowed := true, recurses := true, apart := false }
def AvoidTallSaid : Prop := avoidTallRow.holds Try.pinned (OpenSpec.ofChange avoidTallSpec)

/-- ITS FALSE NEIGHBOUR: 'it returns false'. Refute it at one input. -/
def avoidTallWrong : ChangeSpec := { name := "avoidTall", fn := fun _ => fun
  | [d1, d2, d3] => { results := [.lit (.bool false)], args := [d1, d2, d3] }
  | _ => none }
def AvoidTallWrongFalsely : Prop := avoidTallRow.holds Try.pinned (OpenSpec.ofChange avoidTallWrong)

/-- 'runaroundlaw12.AvoidApart': WHATEVER THE INPUT: true; the input reads as it did. -/
def avoidApartSpec : ChangeSpec := { name := "avoidApart", fn := fun _ => fun
  | [d1, d2] => { results := [.lit (.bool true)], args := [d1, d2] }
  | _ => none }
def avoidApartRow : OpenClaim := { program := "ytnkbbobdhcloeaa", sum := "4acc8de14aa250d82421ff4fb1ac9931bd78b56456f4ef483fb12112de827e4d", func := "runaround/runaroundlaw12.AvoidApart", spec := "avoidApart", inPlace := ["slices.overlaps[runaround/shelf.Shelf]"], unfollowed := true, recurses := true, apart := false }
def AvoidApartSaid : Prop := avoidApartRow.holds Try.pinned (OpenSpec.ofChange avoidApartSpec)

/-- ITS FALSE NEIGHBOUR: 'it returns false'. Refute it at one input. -/
def avoidApartWrong : ChangeSpec := { name := "avoidApart", fn := fun _ => fun
  | [d1, d2] => { results := [.lit (.bool false)], args := [d1, d2] }
  | _ => none }
def AvoidApartWrongFalsely : Prop := avoidApartRow.holds Try.pinned (OpenSpec.ofChange avoidApartWrong)

/-- 'runaroundlaw12.AvoidFinds': WHATEVER THE INPUT: true; the input reads as it did. -/
def avoidFindsSpec : ChangeSpec := { name := "avoidFinds", fn := fun _ => fun
  | [d1, d2, d3] => { results := [.lit (.bool true)], args := [d1, d2, d3] }
  | _ => none }
def avoidFindsRow : OpenClaim := { program := "ytnkbbobdhcloeaa", sum := "4acc8de14aa250d82421ff4fb1ac9931bd78b56456f4ef483fb12112de827e4d", func := "runaround/runaroundlaw12.AvoidFinds", spec := "avoidFinds", inPlace := ["slices.overlaps[runaround/shelf.Shelf]"], unfollowed := true, recurses := true, apart := false }
def AvoidFindsSaid : Prop := avoidFindsRow.holds Try.pinned (OpenSpec.ofChange avoidFindsSpec)

/-- ITS FALSE NEIGHBOUR: 'it returns false'. Refute it at one input. -/
def avoidFindsWrong : ChangeSpec := { name := "avoidFinds", fn := fun _ => fun
  | [d1, d2, d3] => { results := [.lit (.bool false)], args := [d1, d2, d3] }
  | _ => none }
def AvoidFindsWrongFalsely : Prop := avoidFindsRow.holds Try.pinned (OpenSpec.ofChange avoidFindsWrong)

/-- 'runaroundlaw11.PlaceHighest': WHATEVER THE INPUT: true; the input reads as it did. -/
def placeHighestSpec : ChangeSpec := { name := "placeHighest", fn := fun _ => fun
  | [d1, d2] => { results := [.lit (.bool true)], args := [d1, d2] }
  | _ => none }
def placeHighestRow : OpenClaim := { program := "ytnkbbobdhcloeaa", sum := "4acc8de14aa250d82421ff4fb1ac9931bd78b56456f4ef483fb12112de827e4d", func := "runaround/runaroundlaw11.PlaceHighest", spec := "placeHighest", inPlace := ["slices.overlaps[runaround/shelf.Shelf]"], unfollowed := true, recurses := true, apart := false }
def PlaceHighestSaid : Prop := placeHighestRow.holds Try.pinned (OpenSpec.ofChange placeHighestSpec)

/-- ITS FALSE NEIGHBOUR: 'it returns false'. Refute it at one input. -/
def placeHighestWrong : ChangeSpec := { name := "placeHighest", fn := fun _ => fun
  | [d1, d2] => { results := [.lit (.bool false)], args := [d1, d2] }
  | _ => none }
def PlaceHighestWrongFalsely : Prop := placeHighestRow.holds Try.pinned (OpenSpec.ofChange placeHighestWrong)

/-- 'runaroundlaw11.PlaceFar': WHATEVER THE INPUT: true; the input reads as it did. -/
def placeFarSpec : ChangeSpec := { name := "placeFar", fn := fun _ => fun
  | [d1, d2] => { results := [.lit (.bool true)], args := [d1, d2] }
  | _ => none }
def placeFarRow : OpenClaim := { program := "ytnkbbobdhcloeaa", sum := "4acc8de14aa250d82421ff4fb1ac9931bd78b56456f4ef483fb12112de827e4d", func := "runaround/runaroundlaw11.PlaceFar", spec := "placeFar", inPlace := ["slices.overlaps[runaround/shelf.Shelf]"], unfollowed := true, recurses := true, apart := false }
def PlaceFarSaid : Prop := placeFarRow.holds Try.pinned (OpenSpec.ofChange placeFarSpec)

/-- ITS FALSE NEIGHBOUR: 'it returns false'. Refute it at one input. -/
def placeFarWrong : ChangeSpec := { name := "placeFar", fn := fun _ => fun
  | [d1, d2] => { results := [.lit (.bool false)], args := [d1, d2] }
  | _ => none }
def PlaceFarWrongFalsely : Prop := placeFarRow.holds Try.pinned (OpenSpec.ofChange placeFarWrong)

/-- 'runaroundlaw11.PlaceNarrow': WHATEVER THE INPUT: true; the input reads as it did. -/
def placeNarrowSpec : ChangeSpec := { name := "placeNarrow", fn := fun _ => fun
  | [d1, d2, d3, d4] => { results := [.lit (.bool true)], args := [d1, d2, d3, d4] }
  | _ => none }
def placeNarrowRow : OpenClaim := { program := "ytnkbbobdhcloeaa", sum := "4acc8de14aa250d82421ff4fb1ac9931bd78b56456f4ef483fb12112de827e4d", func := "runaround/runaroundlaw11.PlaceNarrow", spec := "placeNarrow", inPlace := ["slices.overlaps[runaround/shelf.Shelf]"], unfollowed := true, recurses := true, apart := false }
def PlaceNarrowSaid : Prop := placeNarrowRow.holds Try.pinned (OpenSpec.ofChange placeNarrowSpec)

/-- ITS FALSE NEIGHBOUR: 'it returns false'. Refute it at one input. -/
def placeNarrowWrong : ChangeSpec := { name := "placeNarrow", fn := fun _ => fun
  | [d1, d2, d3, d4] => { results := [.lit (.bool false)], args := [d1, d2, d3, d4] }
  | _ => none }
def PlaceNarrowWrongFalsely : Prop := placeNarrowRow.holds Try.pinned (OpenSpec.ofChange placeNarrowWrong)

/-- 'runaroundlaw11.PlaceMirror': WHATEVER THE INPUT: true; the input reads as it did. -/
def placeMirrorSpec : ChangeSpec := { name := "placeMirror", fn := fun _ => fun
  | [d1, d2] => { results := [.lit (.bool true)], args := [d1, d2] }
  | _ => none }
def placeMirrorRow : OpenClaim := { program := "ytnkbbobdhcloeaa", sum := "4acc8de14aa250d82421ff4fb1ac9931bd78b56456f4ef483fb12112de827e4d", func := "runaround/runaroundlaw11.PlaceMirror", spec := "placeMirror", inPlace := ["slices.overlaps[runaround/shelf.Shelf]"], unfollowed := true, recurses := true, apart := false }
def PlaceMirrorSaid : Prop := placeMirrorRow.holds Try.pinned (OpenSpec.ofChange placeMirrorSpec)

/-- ITS FALSE NEIGHBOUR: 'it returns false'. Refute it at one input. -/
def placeMirrorWrong : ChangeSpec := { name := "placeMirror", fn := fun _ => fun
  | [d1, d2] => { results := [.lit (.bool false)], args := [d1, d2] }
  | _ => none }
def PlaceMirrorWrongFalsely : Prop := placeMirrorRow.holds Try.pinned (OpenSpec.ofChange placeMirrorWrong)

/-- 'runaroundlaw11.PlaceTall': WHATEVER THE INPUT: true; the input reads as it did. -/
def placeTallSpec : ChangeSpec := { name := "placeTall", fn := fun _ => fun
  | [d1, d2, d3] => { results := [.lit (.bool true)], args := [d1, d2, d3] }
  | _ => none }
def placeTallRow : OpenClaim := { program := "ytnkbbobdhcloeaa", sum := "4acc8de14aa250d82421ff4fb1ac9931bd78b56456f4ef483fb12112de827e4d", func := "runaround/runaroundlaw11.PlaceTall", spec := "placeTall", inPlace := ["slices.overlaps[runaround/shelf.Shelf]"], unfollowed := true, recurses := true, apart := false }
def PlaceTallSaid : Prop := placeTallRow.holds Try.pinned (OpenSpec.ofChange placeTallSpec)

/-- ITS FALSE NEIGHBOUR: 'it returns false'. Refute it at one input. -/
def placeTallWrong : ChangeSpec := { name := "placeTall", fn := fun _ => fun
  | [d1, d2, d3] => { results := [.lit (.bool false)], args := [d1, d2, d3] }
  | _ => none }
def PlaceTallWrongFalsely : Prop := placeTallRow.holds Try.pinned (OpenSpec.ofChange placeTallWrong)

/-- 'runaroundlaw11.PlaceFinds': WHATEVER THE INPUT: true; the input reads as it did. -/
def placeFindsSpec : ChangeSpec := { name := "placeFinds", fn := fun _ => fun
  | [d1, d2, d3] => { results := [.lit (.bool true)], args := [d1, d2, d3] }
  | _ => none }
def placeFindsRow : OpenClaim := { program := "ytnkbbobdhcloeaa", sum := "4acc8de14aa250d82421ff4fb1ac9931bd78b56456f4ef483fb12112de827e4d", func := "runaround/runaroundlaw11.PlaceFinds", spec := "placeFinds", inPlace := ["slices.overlaps[runaround/shelf.Shelf]"], unfollowed := true, recurses := true, apart := false }
def PlaceFindsSaid : Prop := placeFindsRow.holds Try.pinned (OpenSpec.ofChange placeFindsSpec)

/-- ITS FALSE NEIGHBOUR: 'it returns false'. Refute it at one input. -/
def placeFindsWrong : ChangeSpec := { name := "placeFinds", fn := fun _ => fun
  | [d1, d2, d3] => { results := [.lit (.bool false)], args := [d1, d2, d3] }
  | _ => none }
def PlaceFindsWrongFalsely : Prop := placeFindsRow.holds Try.pinned (OpenSpec.ofChange placeFindsWrong)

/- THE SECOND FORM. 'bulk': how many values and letters a reading holds, each counted each time it is reached (what is shared counts as often as it is met; a slice's spare places count too). A statement '..UptoSaid' is the law's where the arguments, and the package variables that the reading takes, are together of bulk at most 1048576: NARROWER than '..Said'. Prove '..Said' where nothing that the law and all that it calls make is longer than what came in: it says more and counts as full. Else prove '..UptoSaid'. A law counts once. -/
mutual
def uptoBulk {H : Type} : DataW H → Nat
  | .lit (.string bytes) => bytes.length + 1
  | .lit _ => 1
  | .nil => 1
  | .ptr d => uptoBulk d + 1
  | .slice elems spare => uptoBulkAll elems + uptoBulkAll spare + 1
  | .agg parts => uptoBulkAll parts + 1
  | .iface _ d => uptoBulk d + 1
  | .map entries => uptoBulkEntries entries + 1
  | .held _ => 1
def uptoBulkAll {H : Type} : List (DataW H) → Nat
  | [] => 0
  | d :: r => uptoBulk d + uptoBulkAll r
def uptoBulkEntries {H : Type} : List (Lit × DataW H) → Nat
  | [] => 0
  | x :: r => uptoBulkEntry x + uptoBulkEntries r
def uptoBulkEntry {H : Type} : Lit × DataW H → Nat
  | (.string bytes, d) => bytes.length + uptoBulk d + 1
  | (_, d) => uptoBulk d + 1
 end
def uptoSmall : (H : Type) → List (DataW H) → Bool := fun _ ds => decide (uptoBulkAll ds ≤ 1048576)
def OpenSpec.upto (s : _root_.Go.ChangeSpec) : _root_.Go.OpenSpec := { _root_.Go.OpenSpec.ofChange s with cond := some uptoSmall }

/-- 'runaroundlaw12.AvoidHighest', WHERE WHAT IT READS IS OF BULK AT MOST 1048576: true; the input reads as it did. -/
def avoidHighestUptoRow : OpenClaim := { program := "ytnkbbobdhcloeaa", sum := "4acc8de14aa250d82421ff4fb1ac9931bd78b56456f4ef483fb12112de827e4d", func := "runaround/runaroundlaw12.AvoidHighest", spec := "avoidHighest", inPlace := ["slices.overlaps[runaround/shelf.Shelf]"], unfollowed := true, recurses := true, apart := false, narrowed := true }
def AvoidHighestUptoSaid : Prop := avoidHighestUptoRow.holds Try.pinned (OpenSpec.upto avoidHighestSpec)

/-- 'runaroundlaw12.AvoidAlone', WHERE WHAT IT READS IS OF BULK AT MOST 1048576: true; the input reads as it did. -/
def avoidAloneUptoRow : OpenClaim := { program := "ytnkbbobdhcloeaa", sum := "4acc8de14aa250d82421ff4fb1ac9931bd78b56456f4ef483fb12112de827e4d", func := "runaround/runaroundlaw12.AvoidAlone", spec := "avoidAlone", inPlace := ["slices.overlaps[runaround/shelf.Shelf]"], unfollowed := true, recurses := true, apart := false, narrowed := true }
def AvoidAloneUptoSaid : Prop := avoidAloneUptoRow.holds Try.pinned (OpenSpec.upto avoidAloneSpec)

/-- 'runaroundlaw12.AvoidRoom', WHERE WHAT IT READS IS OF BULK AT MOST 1048576: true; the input reads as it did. -/
def avoidRoomUptoRow : OpenClaim := { program := "ytnkbbobdhcloeaa", sum := "4acc8de14aa250d82421ff4fb1ac9931bd78b56456f4ef483fb12112de827e4d", func := "runaround/runaroundlaw12.AvoidRoom", spec := "avoidRoom", inPlace := ["slices.overlaps[runaround/shelf.Shelf]"], unfollowed := true, recurses := true, apart := false, narrowed := true }
def AvoidRoomUptoSaid : Prop := avoidRoomUptoRow.holds Try.pinned (OpenSpec.upto avoidRoomSpec)

/-- 'runaroundlaw12.AvoidTall', WHERE WHAT IT READS IS OF BULK AT MOST 1048576: true; the input reads as it did. -/
def avoidTallUptoRow : OpenClaim := { program := "ytnkbbobdhcloeaa", sum := "4acc8de14aa250d82421ff4fb1ac9931bd78b56456f4ef483fb12112de827e4d", func := "runaround/runaroundlaw12.AvoidTall", spec := "avoidTall", inPlace := ["slices.overlaps[runaround/shelf.Shelf]"], unfollowed := true, recurses := true, apart := false, narrowed := true }
def AvoidTallUptoSaid : Prop := avoidTallUptoRow.holds Try.pinned (OpenSpec.upto avoidTallSpec)

/-- 'runaroundlaw12.AvoidApart', WHERE WHAT IT READS IS OF BULK AT MOST 1048576: true; the input reads as it did. -/
def avoidApartUptoRow : OpenClaim := { program := "ytnkbbobdhcloeaa", sum := "4acc8de14aa250d82421ff4fb1ac9931bd78b56456f4ef483fb12112de827e4d", func := "runaround/runaroundlaw12.AvoidApart", spec := "avoidApart", inPlace := ["slices.overlaps[runaround/shelf.Shelf]"], unfollowed := true, recurses := true, apart := false, narrowed := true }
def AvoidApartUptoSaid : Prop := avoidApartUptoRow.holds Try.pinned (OpenSpec.upto avoidApartSpec)

/-- 'runaroundlaw12.AvoidFinds', WHERE WHAT IT READS IS OF BULK AT MOST 1048576: true; the input reads as it did. -/
def avoidFindsUptoRow : OpenClaim := { program := "ytnkbbobdhcloeaa", sum := "4acc8de14aa250d82421ff4fb1ac9931bd78b56456f4ef483fb12112de827e4d", func := "runaround/runaroundlaw12.AvoidFinds", spec := "avoidFinds", inPlace := ["slices.overlaps[runaround/shelf.Shelf]"], unfollowed := true, recurses := true, apart := false, narrowed := true }
def AvoidFindsUptoSaid : Prop := avoidFindsUptoRow.holds Try.pinned (OpenSpec.upto avoidFindsSpec)

/-- 'runaroundlaw11.PlaceHighest', WHERE WHAT IT READS IS OF BULK AT MOST 1048576: true; the input reads as it did. -/
def placeHighestUptoRow : OpenClaim := { program := "ytnkbbobdhcloeaa", sum := "4acc8de14aa250d82421ff4fb1ac9931bd78b56456f4ef483fb12112de827e4d", func := "runaround/runaroundlaw11.PlaceHighest", spec := "placeHighest", inPlace := ["slices.overlaps[runaround/shelf.Shelf]"], unfollowed := true, recurses := true, apart := false, narrowed := true }
def PlaceHighestUptoSaid : Prop := placeHighestUptoRow.holds Try.pinned (OpenSpec.upto placeHighestSpec)

/-- 'runaroundlaw11.PlaceFar', WHERE WHAT IT READS IS OF BULK AT MOST 1048576: true; the input reads as it did. -/
def placeFarUptoRow : OpenClaim := { program := "ytnkbbobdhcloeaa", sum := "4acc8de14aa250d82421ff4fb1ac9931bd78b56456f4ef483fb12112de827e4d", func := "runaround/runaroundlaw11.PlaceFar", spec := "placeFar", inPlace := ["slices.overlaps[runaround/shelf.Shelf]"], unfollowed := true, recurses := true, apart := false, narrowed := true }
def PlaceFarUptoSaid : Prop := placeFarUptoRow.holds Try.pinned (OpenSpec.upto placeFarSpec)

/-- 'runaroundlaw11.PlaceNarrow', WHERE WHAT IT READS IS OF BULK AT MOST 1048576: true; the input reads as it did. -/
def placeNarrowUptoRow : OpenClaim := { program := "ytnkbbobdhcloeaa", sum := "4acc8de14aa250d82421ff4fb1ac9931bd78b56456f4ef483fb12112de827e4d", func := "runaround/runaroundlaw11.PlaceNarrow", spec := "placeNarrow", inPlace := ["slices.overlaps[runaround/shelf.Shelf]"], unfollowed := true, recurses := true, apart := false, narrowed := true }
def PlaceNarrowUptoSaid : Prop := placeNarrowUptoRow.holds Try.pinned (OpenSpec.upto placeNarrowSpec)

/-- 'runaroundlaw11.PlaceMirror', WHERE WHAT IT READS IS OF BULK AT MOST 1048576: true; the input reads as it did. -/
def placeMirrorUptoRow : OpenClaim := { program := "ytnkbbobdhcloeaa", sum := "4acc8de14aa250d82421ff4fb1ac9931bd78b56456f4ef483fb12112de827e4d", func := "runaround/runaroundlaw11.PlaceMirror", spec := "placeMirror", inPlace := ["slices.overlaps[runaround/shelf.Shelf]"], unfollowed := true, recurses := true, apart := false, narrowed := true }
def PlaceMirrorUptoSaid : Prop := placeMirrorUptoRow.holds Try.pinned (OpenSpec.upto placeMirrorSpec)

/-- 'runaroundlaw11.PlaceTall', WHERE WHAT IT READS IS OF BULK AT MOST 1048576: true; the input reads as it did. -/
def placeTallUptoRow : OpenClaim := { program := "ytnkbbobdhcloeaa", sum := "4acc8de14aa250d82421ff4fb1ac9931bd78b56456f4ef483fb12112de827e4d", func := "runaround/runaroundlaw11.PlaceTall", spec := "placeTall", inPlace := ["slices.overlaps[runaround/shelf.Shelf]"], unfollowed := true, recurses := true, apart := false, narrowed := true }
def PlaceTallUptoSaid : Prop := placeTallUptoRow.holds Try.pinned (OpenSpec.upto placeTallSpec)

/-- 'runaroundlaw11.PlaceFinds', WHERE WHAT IT READS IS OF BULK AT MOST 1048576: true; the input reads as it did. -/
def placeFindsUptoRow : OpenClaim := { program := "ytnkbbobdhcloeaa", sum := "4acc8de14aa250d82421ff4fb1ac9931bd78b56456f4ef483fb12112de827e4d", func := "runaround/runaroundlaw11.PlaceFinds", spec := "placeFinds", inPlace := ["slices.overlaps[runaround/shelf.Shelf]"], unfollowed := true, recurses := true, apart := false, narrowed := true }
def PlaceFindsUptoSaid : Prop := placeFindsUptoRow.holds Try.pinned (OpenSpec.upto placeFindsSpec)

end Rows
end Go.Proofs.Ytnkbbobdhcloeaa
