/- The contracts of shelf.New and (*shelf.List).Shelves. -/
import Derived.Test.YtecojcdmigmnhaaAd
import Derived.Maps.AppendAt
namespace Go.Proofs.Ytecojcdmigmnhaa
set_option linter.unusedSimpArgs false
set_option linter.unusedVariables false
open Go.RowKit
def NewPost (w : World) (e : Ending) (w' : World) : Prop := ∃ lp, e = .returned (.pointer (some ⟨lp, 0, none⟩)) ∧ ListIs w' w.heap.size lp (full []) ∧ Below w.heap.size w w'
set_option maxRecDepth 20000 in
theorem new_any (w : World) : Calls Try.prog 61 #[] w (NewPost w) := by
  go_enter Try.func61, Try.ntmps61
  go_wp2_with fail
  go_ret
  refine ⟨_, rfl, ⟨.slice (some ⟨w.heap.size, 0, none⟩) 1 1, ?_, by simp, ?_⟩, ((Below.refl _ _).alloc (Nat.le_refl _) _).alloc (by simp) _⟩
  · refine Eq.trans ?_ (heap_alloc_new (w.alloc (.cells #[.int .i64 (-4503599627370496), .int .i64 (-4503599627370496), .int .i64 4503599627370496] 162)) _)
    simp
  exact (World.ownsRow_lit w #[_, _, _] 1 (Nat.le_refl _) (by decide) rfl).alloc _
end Go.Proofs.Ytecojcdmigmnhaa
