/- Contracts of the layer record's reference. -/
import Derived.Test.YtpjngnkcjccbcaaBx
import Derived.Lib.Hide
namespace Go.Proofs.Ytpjngnkcjccbcaa
set_option linter.unusedSimpArgs false
set_option linter.unusedVariables false
open Go.RowKit
set_option maxHeartbeats 16000000 in
set_option maxRecDepth 100000 in
theorem rchk_any (b : Bx) (w : World) : Calls Try.prog 16 #[.agg #[.int .i64 b.d, .int .i64 b.k, .int .i64 b.s, .int .i64 b.c, .int .i64 b.w, .int .i64 b.h, .int .i64 b.m0, .int .i64 b.m1, .int .i64 b.m2, .int .i64 b.m3, .int .i64 b.e0, .int .i64 b.e1, .int .i64 b.e2, .int .i64 b.e3]] w
   fun e w' => e = .returned (.int .i64 (rchk b)) ∧ Below w.heap.size w w' := by
  go_enter Try.func16, Try.ntmps16
  go_upto_region 10 with (first | (go_at_call 52; refine (big_any _ _).mono ?_; rintro e w' ⟨rfl, rfl⟩) | refine wp_loop_rounds 5 ?_ | rw [rounds_succ])
  any_goals (go_ret; exact ⟨ret_i (by simp [rchk, *]), (Below.refl _ _).alloc (Nat.le_refl _) _⟩)
  have hr : rchk b = if tSide b then 5 else if tClear b then 6 else if tSize b then 7 else rB b := by
    simp [rchk, *]
    intro h
    omega
  have HR := Lib.hid hr
  clear hr
  go_cut [0, 60] (fun _ v wc => v = .bool (tSide b) ∧ wc = w.alloc (.cells #[.int .i64 b.d, .int .i64 b.k, .int .i64 b.s, .int .i64 b.c, .int .i64 b.w, .int .i64 b.h, .int .i64 b.m0, .int .i64 b.m1, .int .i64 b.m2, .int .i64 b.m3, .int .i64 b.e0, .int .i64 b.e1, .int .i64 b.e2, .int .i64 b.e3] 24))
  case first =>
    go_wp2
    all_goals go_meet
    all_goals (case rel => exact ⟨congrArg Value.bool (by rw [Bool.eq_iff_iff]; simp [tSide] <;> omega), by first | rfl | (simp [*]; done)⟩)
  obtain ⟨rfl, rfl⟩ := hcut
  go_upto_region 12 with (fail)
  any_goals (go_ret; exact ⟨ret_i (by rw [HR.out]; simp [*]), (Below.refl _ _).alloc (Nat.le_refl _) _⟩)
  go_cut [0, 78] (fun _ v wc => v = .bool (tClear b) ∧ wc = w.alloc (.cells #[.int .i64 b.d, .int .i64 b.k, .int .i64 b.s, .int .i64 b.c, .int .i64 b.w, .int .i64 b.h, .int .i64 b.m0, .int .i64 b.m1, .int .i64 b.m2, .int .i64 b.m3, .int .i64 b.e0, .int .i64 b.e1, .int .i64 b.e2, .int .i64 b.e3] 24))
  case first =>
    go_wp2
    all_goals go_meet
    all_goals (case rel => exact ⟨congrArg Value.bool (by rw [Bool.eq_iff_iff]; simp [tClear] <;> omega), by first | rfl | (simp [*]; done)⟩)
  obtain ⟨rfl, rfl⟩ := hcut
  go_upto_region 14 with (fail)
  any_goals (go_ret; exact ⟨ret_i (by rw [HR.out]; simp [*]), (Below.refl _ _).alloc (Nat.le_refl _) _⟩)
  go_cut [0, 111] (fun _ v wc => v = .bool (tSize b) ∧ wc = w.alloc (.cells #[.int .i64 b.d, .int .i64 b.k, .int .i64 b.s, .int .i64 b.c, .int .i64 b.w, .int .i64 b.h, .int .i64 b.m0, .int .i64 b.m1, .int .i64 b.m2, .int .i64 b.m3, .int .i64 b.e0, .int .i64 b.e1, .int .i64 b.e2, .int .i64 b.e3] 24))
  case first =>
    go_wp2
    all_goals go_meet
    all_goals (case rel => exact ⟨congrArg Value.bool (by rw [Bool.eq_iff_iff]; simp [tSize] <;> omega), by first | rfl | (simp [*]; done)⟩)
  obtain ⟨rfl, rfl⟩ := hcut
  go_upto_region 16 with (fail)
  any_goals (go_ret; exact ⟨ret_i (by rw [HR.out]; simp [*]), (Below.refl _ _).alloc (Nat.le_refl _) _⟩)
  have hr : rchk b = rB b := by rw [HR.out]; simp [*]
  have HS := Lib.hid hr
  clear hr
  by_cases h5 : b.k = 5
  all_goals
    go_wp2_with (first | refine wp_loop_rounds 5 ?_ | rw [rounds_succ])
  any_goals go_ret
  all_goals refine ⟨ret_i ?_, (Below.refl _ _).alloc (Nat.le_refl _) _⟩
  all_goals rw [HS.out]
  all_goals (try simp only [bne_iff_ne, bne_eq_false_iff_eq, ne_eq] at *)
  all_goals unfold rB
  all_goals (repeat' split)
  all_goals first | rfl | (exfalso; omega)
end Go.Proofs.Ytpjngnkcjccbcaa
