/- Which kinds may stand in which. -/
import Derived.Test.YtpjngnkcjccbcaaBx
import Derived.Lib.Hide
namespace Go.Proofs.Ytpjngnkcjccbcaa
set_option linter.unusedSimpArgs false
set_option linter.unusedVariables false
open Go.RowKit
def openB (k : Int) : Bool := decide (k = 2) || decide (k = 3)
def fitsB (p c : Int) : Bool := decide (c = 5 ∧ p = 4 ∨ c = 2 ∧ 1 ≤ p ∧ p ≤ 4 ∨ (c = 1 ∨ c = 3 ∨ c = 4) ∧ 1 ≤ p ∧ p ≤ 3)
theorem open_any (k : Int) (w : World) : Calls Try.prog 29 #[.int .i64 k] w fun e w' => e = .returned (.bool (openB k)) ∧ w = w' := by
  go_enter Try.func29, Try.ntmps29
  go_wp2
  all_goals go_ret
  all_goals exact ⟨congrArg (fun b => Ending.returned (.bool b)) (by (try simp only [beq_eq_false_iff_ne, ne_eq, beq_iff_eq, bne_iff_ne] at *); rw [Bool.eq_iff_iff]; simp [openB] <;> omega), rfl⟩
set_option maxHeartbeats 1000000 in
theorem fits_any (p c : Int) (w : World) : Calls Try.prog 27 #[.int .i64 p, .int .i64 c] w fun e w' => e = .returned (.bool (fitsB p c)) ∧ w = w' := by
  go_enter Try.func27, Try.ntmps27
  go_wp2_with (first | (go_at_call 29; refine (open_any _ _).mono ?_; rintro e w' ⟨rfl, rfl⟩))
  all_goals go_ret
  all_goals exact ⟨congrArg (fun b => Ending.returned (.bool b)) (by (try simp only [beq_eq_false_iff_ne, ne_eq, beq_iff_eq, bne_iff_ne, openB, Bool.or_eq_true, Bool.or_eq_false_iff, decide_eq_true_eq, decide_eq_false_iff_not] at *); rw [Bool.eq_iff_iff]; simp [fitsB, openB] <;> omega), rfl⟩
theorem rfits_no (p c : Int) (w : World) (h : p < 1 ∨ 5 < p ∨ c < 1 ∨ 5 < c) : Calls Try.prog 28 #[.int .i64 p, .int .i64 c] w fun e w' => e = .returned (.bool false) ∧ Below w.heap.size w w' := by
  go_enter Try.func28, Try.ntmps28
  go_wp2
  all_goals go_ret
  all_goals exact ⟨rfl, by (repeat (first | exact Below.refl _ _ | (refine Below.alloc ?_ (by first | omega | (simp; done) | (simp; omega)) _) | (refine Below.on (by assumption) ?_ (by first | omega | (simp; done) | (simp; omega))) | (refine Below.grown ?_ (by assumption) (by first | omega | (simp; done) | (simp; omega)) (by intro k hk; cases hk)) | refine Below.drew ?_))⟩
set_option maxHeartbeats 2000000 in
theorem rfits_at (p c : Int) (w : World) (h : 1 ≤ p ∧ p ≤ 5 ∧ 1 ≤ c ∧ c ≤ 5) : Calls Try.prog 28 #[.int .i64 p, .int .i64 c] w fun e w' => e = .returned (.bool (fitsB p c)) ∧ Below w.heap.size w w' := by
  have hp : p = 1 ∨ p = 2 ∨ p = 3 ∨ p = 4 ∨ p = 5 := by omega
  have hc : c = 1 ∨ c = 2 ∨ c = 3 ∨ c = 4 ∨ c = 5 := by omega
  clear h
  rcases hp with rfl | rfl | rfl | rfl | rfl <;> rcases hc with rfl | rfl | rfl | rfl | rfl
  all_goals
    go_enter Try.func28, Try.ntmps28
    go_wp2
  all_goals go_ret
  all_goals exact ⟨by first | rfl | (simp [fitsB]; done), by (repeat (first | exact Below.refl _ _ | (refine Below.alloc ?_ (by first | omega | (simp; done) | (simp; omega)) _) | (refine Below.on (by assumption) ?_ (by first | omega | (simp; done) | (simp; omega))) | (refine Below.grown ?_ (by assumption) (by first | omega | (simp; done) | (simp; omega)) (by intro k hk; cases hk)) | refine Below.drew ?_))⟩
theorem rfits_any (p c : Int) (w : World) : Calls Try.prog 28 #[.int .i64 p, .int .i64 c] w fun e w' => e = .returned (.bool (fitsB p c)) ∧ Below w.heap.size w w' := by
  by_cases h : 1 ≤ p ∧ p ≤ 5 ∧ 1 ≤ c ∧ c ≤ 5
  · exact rfits_at p c w h
  · have e : fitsB p c = false := by simp [fitsB]; omega
    rw [e]
    exact rfits_no p c w (by omega)
end Go.Proofs.Ytpjngnkcjccbcaa
