/- The document's answer's own functions: Full, counts, Bounds. -/
import Derived.Test.YtecojcdmigmnhaaSp9
import Derived.Deep.RegionHeld3
namespace Go.Proofs.Ytecojcdmigmnhaa
set_option linter.unusedSimpArgs false
set_option linter.unusedVariables false
open Go.RowKit
set_option maxRecDepth 20000 in
theorem rfull_any (x0 y0 x1 y1 : Int) (w : World) : Calls Try.prog 114 #[.agg #[.int .i64 x0, .int .i64 y0, .int .i64 x1, .int .i64 y1]] w fun e w' => e = .returned (.bool (fullB x0 y0 x1 y1)) ∧ Below w.heap.size w w' := by
  have hd : (decide (x0 < x1) = false ∧ fullB x0 y0 x1 y1 = false) ∨ (decide (x0 < x1) = true ∧ decide (y0 < y1) = false ∧ fullB x0 y0 x1 y1 = false) ∨ (decide (x0 < x1) = true ∧ decide (y0 < y1) = true ∧ fullB x0 y0 x1 y1 = true) := by
    unfold fullB
    by_cases c1 : x0 < x1
    · by_cases c2 : y0 < y1
      · right; right; exact ⟨decide_eq_true c1, decide_eq_true c2, decide_eq_true ⟨c1, c2⟩⟩
      · right; left; exact ⟨decide_eq_true c1, decide_eq_false c2, decide_eq_false (fun h => c2 h.2)⟩
    · left; exact ⟨decide_eq_false c1, decide_eq_false (fun h => c1 h.1)⟩
  rcases hd with ⟨c1, c2⟩ | ⟨c1, c3, c2⟩ | ⟨c1, c3, c2⟩
  all_goals
    rw [c2]
    clear c2
    go_enter Try.func114, Try.ntmps114
    go_wp2
    go_ret
    exact ⟨rfl, by (repeat (first | exact Below.refl _ _ | (refine Below.alloc ?_ (by first | omega | (simp; done) | (simp; omega)) _) | (refine Below.on (by assumption) ?_ (by first | omega | (simp; done) | (simp; omega))) | (refine Below.grown ?_ (by assumption) (by first | omega | (simp; done) | (simp; omega)) (by intro k hk; cases hk)) | refine Below.drew ?_))⟩
theorem counts_cases (f : Fo) : (cnts f = false ∧ fullB f.x0 f.y0 f.x1 f.y1 = false) ∨ (cnts f = false ∧ fullB f.x0 f.y0 f.x1 f.y1 = true ∧ (f.s == 1) = false ∧ (f.s == 2) = false) ∨
    (cnts f = true ∧ fullB f.x0 f.y0 f.x1 f.y1 = true ∧ (f.s == 1) = true) ∨ (cnts f = true ∧ fullB f.x0 f.y0 f.x1 f.y1 = true ∧ (f.s == 1) = false ∧ (f.s == 2) = true) := by
  unfold cnts fullB
  by_cases h1 : f.x0 < f.x1 ∧ f.y0 < f.y1
  · by_cases h3 : f.s = 1
    · right; right; left
      exact ⟨decide_eq_true ⟨h1.1, h1.2, .inl h3⟩, decide_eq_true h1, by simp [h3]⟩
    · by_cases h4 : f.s = 2
      · right; right; right
        exact ⟨decide_eq_true ⟨h1.1, h1.2, .inr h4⟩, decide_eq_true h1, by simp [h3], by simp [h4]⟩
      · right; left
        exact ⟨decide_eq_false (by omega), decide_eq_true h1, by simp [h3], by simp [h4]⟩
  · left
    exact ⟨decide_eq_false (by omega), decide_eq_false h1⟩
set_option maxRecDepth 20000 in
theorem counts_any (f : Fo) (w : World) : Calls Try.prog 92 #[.agg #[.int .i64 f.s, .int .i64 f.x0, .int .i64 f.y0, .int .i64 f.x1, .int .i64 f.y1]] w fun e w' => e = .returned (.bool (cnts f)) ∧ Below w.heap.size w w' := by
  have hf := fun w => rfull_any f.x0 f.y0 f.x1 f.y1 w
  rcases counts_cases f with ⟨k, d1⟩ | ⟨k, d1, d2, d3⟩ | ⟨k, d1, d2⟩ | ⟨k, d1, d2, d3⟩
  all_goals
    rw [k]
    rw [d1] at hf
    have HF := Lib.hid hf
    clear hf k d1
    generalize f.s = fs at *
    generalize f.x0 = f0 at *
    generalize f.y0 = f1 at *
    generalize f.x1 = f2 at *
    generalize f.y1 = f3 at *
    go_enter Try.func92, Try.ntmps92
    go_wp2_with fail
    refine (HF.out _).mono ?_
    rintro e w1 ⟨rfl, hb1⟩
    have hc := fun o => hb1.cell (p := ⟨w.heap.size, o, none⟩) (by simp; done)
    have HB1 := Lib.hid (Below.onto hb1 ((Below.refl _ _).alloc (Nat.le_refl _) _))
    clear hb1
    go_wp2_with fail
    go_ret
    exact ⟨rfl, HB1.out⟩
end Go.Proofs.Ytecojcdmigmnhaa
