/- rect.Of. -/
import Derived.Test.YtecojcdmigmnhaaRe
namespace Go.Proofs.Ytecojcdmigmnhaa
set_option linter.unusedSimpArgs false
set_option linter.unusedVariables false
open Go.RowKit
set_option maxRecDepth 20000 in
theorem rof_any (a b c d : Int) (w : World) : Calls Try.prog 98 #[.agg #[.int .i64 a, .int .i64 b], .agg #[.int .i64 c, .int .i64 d]] w fun e w' => e = .returned (.agg #[.int .i64 a, .int .i64 c, .int .i64 b, .int .i64 d]) ∧ Below w.heap.size w w' := by
  go_enter Try.func98, Try.ntmps98
  go_wp2
  exact bodyPost_ret (v := .agg #[.int .i64 a, .int .i64 c, .int .i64 b, .int .i64 d]) (by simp [results, Try.results98, go_sem]) rfl ⟨rfl, by (repeat (first | exact Below.refl _ _ | (refine Below.alloc ?_ (by first | omega | (simp; done) | (simp; omega)) _) | (refine Below.on (by assumption) ?_ (by first | omega | (simp; done) | (simp; omega))) | (refine Below.grown ?_ (by assumption) (by first | omega | (simp; done) | (simp; omega)) (by intro k hk; cases hk)) | refine Below.drew ?_))⟩
end Go.Proofs.Ytecojcdmigmnhaa
