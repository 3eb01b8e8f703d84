/-
  No cell of these rows narrows 'for every input' (looked for: loops, veiled, ifaces, maps, wideKeys, modest, calm, conditions, laid).
  DERIVED. THE GIVEN ROWS OF THIS SEAT. 12 by the template 'for every input the law returns true; each argument reads behind the call as it read before'; 0 by the template 'total and deterministic' (their statements: YtpjngnkcjccbcaaTotals.lean).
  GIVEN WITH THE SEED: the statements are not yours to turn. If you find one false, say at which input.
  Laid BY PROGRAM, IN A SANDBOX (cutbox-rows.mjs): the forced cells as the released guide's own fill.sh prints them over the translation aa63e2fef40b40f6… (all of the seat's roots in one cut). By AI agents, Wed Nov 11 2026. No macro, syntax, notation, axiom, sorry.
-/
import Derived.Test.YtpjngnkcjccbcaaChecked
import GoSem.Claim
import GoSem.ClaimJoined
import GoSem.ClaimMapViews
import Derived.JoinedTies
import Derived.KernelRfl
namespace Go.Proofs.Ytpjngnkcjccbcaa
/- THE CELL 'sum', in the pinned program and in every row, IS THE sha256 OF THE DUMP (.gsa) THAT YtpjngnkcjccbcaaProg.lean LOADS. Nothing in Lean hashes anything: it is a label: what it is worth is what the hold of that sum in a sandbox is worth. -/
noncomputable def Try.pinned : Pinned := { name := "ytpjngnkcjccbcaa", sum := "aa63e2fef40b40f676dcc4a3746784d28bd5cb5051d25ed6ed0baadefed7587b", checked := Try.checked }
namespace Rows
def none {H : Type} : Left H := { results := [], args := [] }

/-- 'runaroundlaw08.WidthTells': WHATEVER THE INPUT: true; the input reads as it did. -/
def widthTellsSpec : ChangeSpec := { name := "widthTells", fn := fun _ => fun
  | [d1, d2] => { results := [.lit (.bool true)], args := [d1, d2] }
  | _ => none }
def widthTellsRow : OpenClaim := { program := "ytpjngnkcjccbcaa", sum := "aa63e2fef40b40f676dcc4a3746784d28bd5cb5051d25ed6ed0baadefed7587b", func := "runaround/runaroundlaw08.WidthTells", spec := "widthTells", apart := false }
def WidthTellsSaid : Prop := widthTellsRow.holds Try.pinned (OpenSpec.ofChange widthTellsSpec)

/-- ITS FALSE NEIGHBOUR: 'it returns false'. Refute it at one input. -/
def widthTellsWrong : ChangeSpec := { name := "widthTells", fn := fun _ => fun
  | [d1, d2] => { results := [.lit (.bool false)], args := [d1, d2] }
  | _ => none }
def WidthTellsWrongFalsely : Prop := widthTellsRow.holds Try.pinned (OpenSpec.ofChange widthTellsWrong)

/-- 'runaroundlaw04.RecordChecks': WHATEVER THE INPUT: true; the input reads as it did. -/
def recordChecksSpec : ChangeSpec := { name := "recordChecks", fn := fun _ => fun
  | [d] => { results := [.lit (.bool true)], args := [d] }
  | _ => none }
def recordChecksRow : OpenClaim := { program := "ytpjngnkcjccbcaa", sum := "aa63e2fef40b40f676dcc4a3746784d28bd5cb5051d25ed6ed0baadefed7587b", func := "runaround/runaroundlaw04.RecordChecks", spec := "recordChecks", unfollowed := true, recurses := true, apart := false }
def RecordChecksSaid : Prop := recordChecksRow.holds Try.pinned (OpenSpec.ofChange recordChecksSpec)

/-- ITS FALSE NEIGHBOUR: 'it returns false'. Refute it at one input. -/
def recordChecksWrong : ChangeSpec := { name := "recordChecks", fn := fun _ => fun
  | [d] => { results := [.lit (.bool false)], args := [d] }
  | _ => none }
def RecordChecksWrongFalsely : Prop := recordChecksRow.holds Try.pinned (OpenSpec.ofChange recordChecksWrong)

/-- 'runaroundlaw04.RecordTurns': WHATEVER THE INPUT: true; the input reads as it did. -/
def recordTurnsSpec : ChangeSpec := { name := "recordTurns", fn := fun _ => fun
  | [d1, d2, d3] => { results := [.lit (.bool true)], args := [d1, d2, d3] }
  | _ => none }
def recordTurnsRow : OpenClaim := { program := "ytpjngnkcjccbcaa", sum := "aa63e2fef40b40f676dcc4a3746784d28bd5cb5051d25ed6ed0baadefed7587b", func := "runaround/runaroundlaw04.RecordTurns", spec := "recordTurns", unfollowed := true, recurses := true, apart := false }
def RecordTurnsSaid : Prop := recordTurnsRow.holds Try.pinned (OpenSpec.ofChange recordTurnsSpec)

/-- ITS FALSE NEIGHBOUR: 'it returns false'. Refute it at one input. -/
def recordTurnsWrong : ChangeSpec := { name := "recordTurns", fn := fun _ => fun
  | [d1, d2, d3] => { results := [.lit (.bool false)], args := [d1, d2, d3] }
  | _ => none }
def RecordTurnsWrongFalsely : Prop := recordTurnsRow.holds Try.pinned (OpenSpec.ofChange recordTurnsWrong)

/-- 'runaroundlaw04.RecordKinds': WHATEVER THE INPUT: true; the input reads as it did. -/
def recordKindsSpec : ChangeSpec := { name := "recordKinds", fn := fun _ => fun
  | [d1, d2] => { results := [.lit (.bool true)], args := [d1, d2] }
  | _ => none }
def recordKindsRow : OpenClaim := { program := "ytpjngnkcjccbcaa", sum := "aa63e2fef40b40f676dcc4a3746784d28bd5cb5051d25ed6ed0baadefed7587b", func := "runaround/runaroundlaw04.RecordKinds", spec := "recordKinds", unfollowed := true, recurses := true, apart := false }
def RecordKindsSaid : Prop := recordKindsRow.holds Try.pinned (OpenSpec.ofChange recordKindsSpec)

/-- ITS FALSE NEIGHBOUR: 'it returns false'. Refute it at one input. -/
def recordKindsWrong : ChangeSpec := { name := "recordKinds", fn := fun _ => fun
  | [d1, d2] => { results := [.lit (.bool false)], args := [d1, d2] }
  | _ => none }
def RecordKindsWrongFalsely : Prop := recordKindsRow.holds Try.pinned (OpenSpec.ofChange recordKindsWrong)

/-- 'runaroundlaw04.RecordFits': WHATEVER THE INPUT: true; the input reads as it did. -/
def recordFitsSpec : ChangeSpec := { name := "recordFits", fn := fun _ => fun
  | [d1, d2] => { results := [.lit (.bool true)], args := [d1, d2] }
  | _ => none }
def recordFitsRow : OpenClaim := { program := "ytpjngnkcjccbcaa", sum := "aa63e2fef40b40f676dcc4a3746784d28bd5cb5051d25ed6ed0baadefed7587b", func := "runaround/runaroundlaw04.RecordFits", spec := "recordFits", unfollowed := true, recurses := true, apart := false }
def RecordFitsSaid : Prop := recordFitsRow.holds Try.pinned (OpenSpec.ofChange recordFitsSpec)

/-- ITS FALSE NEIGHBOUR: 'it returns false'. Refute it at one input. -/
def recordFitsWrong : ChangeSpec := { name := "recordFits", fn := fun _ => fun
  | [d1, d2] => { results := [.lit (.bool false)], args := [d1, d2] }
  | _ => none }
def RecordFitsWrongFalsely : Prop := recordFitsRow.holds Try.pinned (OpenSpec.ofChange recordFitsWrong)

/-- 'runaroundlaw06.TreeBuilds': WHATEVER THE INPUT: true; the input reads as it did. -/
def treeBuildsSpec : ChangeSpec := { name := "treeBuilds", fn := fun _ => fun
  | [d] => { results := [.lit (.bool true)], args := [d] }
  | _ => none }
def treeBuildsRow : OpenClaim := { program := "ytpjngnkcjccbcaa", sum := "aa63e2fef40b40f676dcc4a3746784d28bd5cb5051d25ed6ed0baadefed7587b", func := "runaround/runaroundlaw06.TreeBuilds", spec := "treeBuilds", unfollowed := true, recurses := true, apart := false }
def TreeBuildsSaid : Prop := treeBuildsRow.holds Try.pinned (OpenSpec.ofChange treeBuildsSpec)

/-- ITS FALSE NEIGHBOUR: 'it returns false'. Refute it at one input. -/
def treeBuildsWrong : ChangeSpec := { name := "treeBuilds", fn := fun _ => fun
  | [d] => { results := [.lit (.bool false)], args := [d] }
  | _ => none }
def TreeBuildsWrongFalsely : Prop := treeBuildsRow.holds Try.pinned (OpenSpec.ofChange treeBuildsWrong)

/-- 'runaroundlaw06.TreeFronts': WHATEVER THE INPUT: true; the input reads as it did. -/
def treeFrontsSpec : ChangeSpec := { name := "treeFronts", fn := fun _ => fun
  | [d1, d2] => { results := [.lit (.bool true)], args := [d1, d2] }
  | _ => none }
def treeFrontsRow : OpenClaim := { program := "ytpjngnkcjccbcaa", sum := "aa63e2fef40b40f676dcc4a3746784d28bd5cb5051d25ed6ed0baadefed7587b", func := "runaround/runaroundlaw06.TreeFronts", spec := "treeFronts", unfollowed := true, recurses := true, apart := false }
def TreeFrontsSaid : Prop := treeFrontsRow.holds Try.pinned (OpenSpec.ofChange treeFrontsSpec)

/-- ITS FALSE NEIGHBOUR: 'it returns false'. Refute it at one input. -/
def treeFrontsWrong : ChangeSpec := { name := "treeFronts", fn := fun _ => fun
  | [d1, d2] => { results := [.lit (.bool false)], args := [d1, d2] }
  | _ => none }
def TreeFrontsWrongFalsely : Prop := treeFrontsRow.holds Try.pinned (OpenSpec.ofChange treeFrontsWrong)

/-- 'runaroundlaw06.TreeCounts': WHATEVER THE INPUT: true; the input reads as it did. -/
def treeCountsSpec : ChangeSpec := { name := "treeCounts", fn := fun _ => fun
  | [d] => { results := [.lit (.bool true)], args := [d] }
  | _ => none }
def treeCountsRow : OpenClaim := { program := "ytpjngnkcjccbcaa", sum := "aa63e2fef40b40f676dcc4a3746784d28bd5cb5051d25ed6ed0baadefed7587b", func := "runaround/runaroundlaw06.TreeCounts", spec := "treeCounts", unfollowed := true, recurses := true, apart := false }
def TreeCountsSaid : Prop := treeCountsRow.holds Try.pinned (OpenSpec.ofChange treeCountsSpec)

/-- ITS FALSE NEIGHBOUR: 'it returns false'. Refute it at one input. -/
def treeCountsWrong : ChangeSpec := { name := "treeCounts", fn := fun _ => fun
  | [d] => { results := [.lit (.bool false)], args := [d] }
  | _ => none }
def TreeCountsWrongFalsely : Prop := treeCountsRow.holds Try.pinned (OpenSpec.ofChange treeCountsWrong)

/-- 'runaroundlaw06.TreeGrafts': WHATEVER THE INPUT: true; the input reads as it did. -/
def treeGraftsSpec : ChangeSpec := { name := "treeGrafts", fn := fun _ => fun
  | [d1, d2] => { results := [.lit (.bool true)], args := [d1, d2] }
  | _ => none }
def treeGraftsRow : OpenClaim := { program := "ytpjngnkcjccbcaa", sum := "aa63e2fef40b40f676dcc4a3746784d28bd5cb5051d25ed6ed0baadefed7587b", func := "runaround/runaroundlaw06.TreeGrafts", spec := "treeGrafts", unfollowed := true, recurses := true, apart := false }
def TreeGraftsSaid : Prop := treeGraftsRow.holds Try.pinned (OpenSpec.ofChange treeGraftsSpec)

/-- ITS FALSE NEIGHBOUR: 'it returns false'. Refute it at one input. -/
def treeGraftsWrong : ChangeSpec := { name := "treeGrafts", fn := fun _ => fun
  | [d1, d2] => { results := [.lit (.bool false)], args := [d1, d2] }
  | _ => none }
def TreeGraftsWrongFalsely : Prop := treeGraftsRow.holds Try.pinned (OpenSpec.ofChange treeGraftsWrong)

/-- 'runaroundlaw06.TreeStands': WHATEVER THE INPUT: true; the input reads as it did. -/
def treeStandsSpec : ChangeSpec := { name := "treeStands", fn := fun _ => fun
  | [d1, d2] => { results := [.lit (.bool true)], args := [d1, d2] }
  | _ => none }
def treeStandsRow : OpenClaim := { program := "ytpjngnkcjccbcaa", sum := "aa63e2fef40b40f676dcc4a3746784d28bd5cb5051d25ed6ed0baadefed7587b", func := "runaround/runaroundlaw06.TreeStands", spec := "treeStands", unfollowed := true, recurses := true, apart := false }
def TreeStandsSaid : Prop := treeStandsRow.holds Try.pinned (OpenSpec.ofChange treeStandsSpec)

/-- ITS FALSE NEIGHBOUR: 'it returns false'. Refute it at one input. -/
def treeStandsWrong : ChangeSpec := { name := "treeStands", fn := fun _ => fun
  | [d1, d2] => { results := [.lit (.bool false)], args := [d1, d2] }
  | _ => none }
def TreeStandsWrongFalsely : Prop := treeStandsRow.holds Try.pinned (OpenSpec.ofChange treeStandsWrong)

/-- 'runaroundlaw06.TreeLaws': WHATEVER THE INPUT: true; the input reads as it did. -/
def treeLawsSpec : ChangeSpec := { name := "treeLaws", fn := fun _ => fun
  | [d] => { results := [.lit (.bool true)], args := [d] }
  | _ => none }
def treeLawsRow : OpenClaim := { program := "ytpjngnkcjccbcaa", sum := "aa63e2fef40b40f676dcc4a3746784d28bd5cb5051d25ed6ed0baadefed7587b", func := "runaround/runaroundlaw06.TreeLaws", spec := "treeLaws", unfollowed := true, recurses := true, apart := false }
def TreeLawsSaid : Prop := treeLawsRow.holds Try.pinned (OpenSpec.ofChange treeLawsSpec)

/-- ITS FALSE NEIGHBOUR: 'it returns false'. Refute it at one input. -/
def treeLawsWrong : ChangeSpec := { name := "treeLaws", fn := fun _ => fun
  | [d] => { results := [.lit (.bool false)], args := [d] }
  | _ => none }
def TreeLawsWrongFalsely : Prop := treeLawsRow.holds Try.pinned (OpenSpec.ofChange treeLawsWrong)

/-- 'runaroundlaw07.WalkAll': WHATEVER THE INPUT: true; the input reads as it did. -/
def walkAllSpec : ChangeSpec := { name := "walkAll", fn := fun _ => fun
  | [d] => { results := [.lit (.bool true)], args := [d] }
  | _ => none }
def walkAllRow : OpenClaim := { program := "ytpjngnkcjccbcaa", sum := "aa63e2fef40b40f676dcc4a3746784d28bd5cb5051d25ed6ed0baadefed7587b", func := "runaround/runaroundlaw07.WalkAll", spec := "walkAll", unfollowed := true, recurses := true, apart := false }
def WalkAllSaid : Prop := walkAllRow.holds Try.pinned (OpenSpec.ofChange walkAllSpec)

/-- ITS FALSE NEIGHBOUR: 'it returns false'. Refute it at one input. -/
def walkAllWrong : ChangeSpec := { name := "walkAll", fn := fun _ => fun
  | [d] => { results := [.lit (.bool false)], args := [d] }
  | _ => none }
def WalkAllWrongFalsely : Prop := walkAllRow.holds Try.pinned (OpenSpec.ofChange walkAllWrong)

/- THE SECOND FORM. 'bulk': how many values and letters a reading holds, each counted each time it is reached (what is shared counts as often as it is met; a slice's spare places count too). A statement '..UptoSaid' is the law's where the arguments, and the package variables that the reading takes, are together of bulk at most 1048576: NARROWER than '..Said'. Prove '..Said' where nothing that the law and all that it calls make is longer than what came in: it says more and counts as full. Else prove '..UptoSaid'. A law counts once. -/
mutual
def uptoBulk {H : Type} : DataW H → Nat
  | .lit (.string bytes) => bytes.length + 1
  | .lit _ => 1
  | .nil => 1
  | .ptr d => uptoBulk d + 1
  | .slice elems spare => uptoBulkAll elems + uptoBulkAll spare + 1
  | .agg parts => uptoBulkAll parts + 1
  | .iface _ d => uptoBulk d + 1
  | .map entries => uptoBulkEntries entries + 1
  | .held _ => 1
def uptoBulkAll {H : Type} : List (DataW H) → Nat
  | [] => 0
  | d :: r => uptoBulk d + uptoBulkAll r
def uptoBulkEntries {H : Type} : List (Lit × DataW H) → Nat
  | [] => 0
  | x :: r => uptoBulkEntry x + uptoBulkEntries r
def uptoBulkEntry {H : Type} : Lit × DataW H → Nat
  | (.string bytes, d) => bytes.length + uptoBulk d + 1
  | (_, d) => uptoBulk d + 1
 end
def uptoSmall : (H : Type) → List (DataW H) → Bool := fun _ ds => decide (uptoBulkAll ds ≤ 1048576)
def OpenSpec.upto (s : _root_.Go.ChangeSpec) : _root_.Go.OpenSpec := { _root_.Go.OpenSpec.ofChange s with cond := some uptoSmall }

/-- 'runaroundlaw08.WidthTells', WHERE WHAT IT READS IS OF BULK AT MOST 1048576: true; the input reads as it did. -/
def widthTellsUptoRow : OpenClaim := { program := "ytpjngnkcjccbcaa", sum := "aa63e2fef40b40f676dcc4a3746784d28bd5cb5051d25ed6ed0baadefed7587b", func := "runaround/runaroundlaw08.WidthTells", spec := "widthTells", apart := false, narrowed := true }
def WidthTellsUptoSaid : Prop := widthTellsUptoRow.holds Try.pinned (OpenSpec.upto widthTellsSpec)

/-- 'runaroundlaw04.RecordChecks', WHERE WHAT IT READS IS OF BULK AT MOST 1048576: true; the input reads as it did. -/
def recordChecksUptoRow : OpenClaim := { program := "ytpjngnkcjccbcaa", sum := "aa63e2fef40b40f676dcc4a3746784d28bd5cb5051d25ed6ed0baadefed7587b", func := "runaround/runaroundlaw04.RecordChecks", spec := "recordChecks", unfollowed := true, recurses := true, apart := false, narrowed := true }
def RecordChecksUptoSaid : Prop := recordChecksUptoRow.holds Try.pinned (OpenSpec.upto recordChecksSpec)

/-- 'runaroundlaw04.RecordTurns', WHERE WHAT IT READS IS OF BULK AT MOST 1048576: true; the input reads as it did. -/
def recordTurnsUptoRow : OpenClaim := { program := "ytpjngnkcjccbcaa", sum := "aa63e2fef40b40f676dcc4a3746784d28bd5cb5051d25ed6ed0baadefed7587b", func := "runaround/runaroundlaw04.RecordTurns", spec := "recordTurns", unfollowed := true, recurses := true, apart := false, narrowed := true }
def RecordTurnsUptoSaid : Prop := recordTurnsUptoRow.holds Try.pinned (OpenSpec.upto recordTurnsSpec)

/-- 'runaroundlaw04.RecordKinds', WHERE WHAT IT READS IS OF BULK AT MOST 1048576: true; the input reads as it did. -/
def recordKindsUptoRow : OpenClaim := { program := "ytpjngnkcjccbcaa", sum := "aa63e2fef40b40f676dcc4a3746784d28bd5cb5051d25ed6ed0baadefed7587b", func := "runaround/runaroundlaw04.RecordKinds", spec := "recordKinds", unfollowed := true, recurses := true, apart := false, narrowed := true }
def RecordKindsUptoSaid : Prop := recordKindsUptoRow.holds Try.pinned (OpenSpec.upto recordKindsSpec)

/-- 'runaroundlaw04.RecordFits', WHERE WHAT IT READS IS OF BULK AT MOST 1048576: true; the input reads as it did. -/
def recordFitsUptoRow : OpenClaim := { program := "ytpjngnkcjccbcaa", sum := "aa63e2fef40b40f676dcc4a3746784d28bd5cb5051d25ed6ed0baadefed7587b", func := "runaround/runaroundlaw04.RecordFits", spec := "recordFits", unfollowed := true, recurses := true, apart := false, narrowed := true }
def RecordFitsUptoSaid : Prop := recordFitsUptoRow.holds Try.pinned (OpenSpec.upto recordFitsSpec)

/-- 'runaroundlaw06.TreeBuilds', WHERE WHAT IT READS IS OF BULK AT MOST 1048576: true; the input reads as it did. -/
def treeBuildsUptoRow : OpenClaim := { program := "ytpjngnkcjccbcaa", sum := "aa63e2fef40b40f676dcc4a3746784d28bd5cb5051d25ed6ed0baadefed7587b", func := "runaround/runaroundlaw06.TreeBuilds", spec := "treeBuilds", unfollowed := true, recurses := true, apart := false, narrowed := true }
def TreeBuildsUptoSaid : Prop := treeBuildsUptoRow.holds Try.pinned (OpenSpec.upto treeBuildsSpec)

/-- 'runaroundlaw06.TreeFronts', WHERE WHAT IT READS IS OF BULK AT MOST 1048576: true; the input reads as it did. -/
def treeFrontsUptoRow : OpenClaim := { program := "ytpjngnkcjccbcaa", sum := "aa63e2fef40b40f676dcc4a3746784d28bd5cb5051d25ed6ed0baadefed7587b", func := "runaround/runaroundlaw06.TreeFronts", spec := "treeFronts", unfollowed := true, recurses := true, apart := false, narrowed := true }
def TreeFrontsUptoSaid : Prop := treeFrontsUptoRow.holds Try.pinned (OpenSpec.upto treeFrontsSpec)

/-- 'runaroundlaw06.TreeCounts', WHERE WHAT IT READS IS OF BULK AT MOST 1048576: true; the input reads as it did. -/
def treeCountsUptoRow : OpenClaim := { program := "ytpjngnkcjccbcaa", sum := "aa63e2fef40b40f676dcc4a3746784d28bd5cb5051d25ed6ed0baadefed7587b", func := "runaround/runaroundlaw06.TreeCounts", spec := "treeCounts", unfollowed := true, recurses := true, apart := false, narrowed := true }
def TreeCountsUptoSaid : Prop := treeCountsUptoRow.holds Try.pinned (OpenSpec.upto treeCountsSpec)

/-- 'runaroundlaw06.TreeGrafts', WHERE WHAT IT READS IS OF BULK AT MOST 1048576: true; the input reads as it did. -/
def treeGraftsUptoRow : OpenClaim := { program := "ytpjngnkcjccbcaa", sum := "aa63e2fef40b40f676dcc4a3746784d28bd5cb5051d25ed6ed0baadefed7587b", func := "runaround/runaroundlaw06.TreeGrafts", spec := "treeGrafts", unfollowed := true, recurses := true, apart := false, narrowed := true }
def TreeGraftsUptoSaid : Prop := treeGraftsUptoRow.holds Try.pinned (OpenSpec.upto treeGraftsSpec)

/-- 'runaroundlaw06.TreeStands', WHERE WHAT IT READS IS OF BULK AT MOST 1048576: true; the input reads as it did. -/
def treeStandsUptoRow : OpenClaim := { program := "ytpjngnkcjccbcaa", sum := "aa63e2fef40b40f676dcc4a3746784d28bd5cb5051d25ed6ed0baadefed7587b", func := "runaround/runaroundlaw06.TreeStands", spec := "treeStands", unfollowed := true, recurses := true, apart := false, narrowed := true }
def TreeStandsUptoSaid : Prop := treeStandsUptoRow.holds Try.pinned (OpenSpec.upto treeStandsSpec)

/-- 'runaroundlaw06.TreeLaws', WHERE WHAT IT READS IS OF BULK AT MOST 1048576: true; the input reads as it did. -/
def treeLawsUptoRow : OpenClaim := { program := "ytpjngnkcjccbcaa", sum := "aa63e2fef40b40f676dcc4a3746784d28bd5cb5051d25ed6ed0baadefed7587b", func := "runaround/runaroundlaw06.TreeLaws", spec := "treeLaws", unfollowed := true, recurses := true, apart := false, narrowed := true }
def TreeLawsUptoSaid : Prop := treeLawsUptoRow.holds Try.pinned (OpenSpec.upto treeLawsSpec)

/-- 'runaroundlaw07.WalkAll', WHERE WHAT IT READS IS OF BULK AT MOST 1048576: true; the input reads as it did. -/
def walkAllUptoRow : OpenClaim := { program := "ytpjngnkcjccbcaa", sum := "aa63e2fef40b40f676dcc4a3746784d28bd5cb5051d25ed6ed0baadefed7587b", func := "runaround/runaroundlaw07.WalkAll", spec := "walkAll", unfollowed := true, recurses := true, apart := false, narrowed := true }
def WalkAllUptoSaid : Prop := walkAllUptoRow.holds Try.pinned (OpenSpec.upto walkAllSpec)

end Rows
end Go.Proofs.Ytpjngnkcjccbcaa
