/- Contracts of the layer record: its rules. -/
import Derived.Test.YtpjngnkcjccbcaaBx
namespace Go.Proofs.Ytpjngnkcjccbcaa
set_option linter.unusedSimpArgs false
set_option linter.unusedVariables false
open Go.RowKit
theorem run_eq_four (d : Nat) (a0 a1 a2 a3 b0 b1 b2 b3 : Int) (w : World) :
    (Op.equalIn (d + 2) 22 (.agg #[.int .i64 a0, .int .i64 a1, .int .i64 a2, .int .i64 a3]) (.agg #[.int .i64 b0, .int .i64 b1, .int .i64 b2, .int .i64 b3])).run Try.prog w = .ok (a0 == b0 && (a1 == b1 && (a2 == b2 && a3 == b3))) w := by
  have hs : (sizeOf 3).run Try.prog w = .ok 1 w := by kernel_rfl
  have hp : ∀ (l : Array Value) (i : Nat) (v : Value), l[i]? = some v → (part 3 l i).run Try.prog w = .ok v w := fun l i v h => by simp [part, go_sem, h]
  have he : ∀ a b : Int, (Op.equalIn (d + 1) 3 (.int .i64 a) (.int .i64 b)).run Try.prog w = .ok (a == b) w := fun a b => run_equalIn_int w d 3 .i64 .i64 a b Try.underlying3
  unfold Op.equalIn
  simp only [Sem.run_bind, run_underlying Try.underlying22, Result.andThen_ok, hs, Std.Legacy.Range.forIn_eq_forIn_range']
  simp only [show List.range' 0 (({ stop := 4, step_pos := by omega } : Std.Legacy.Range).size) 1 = [0, 1, 2, 3] from rfl, List.forIn_cons, List.forIn_nil, Sem.run_bind, Nat.mul_one, Result.andThen_ok]
  have pa0 := hp #[.int .i64 a0, .int .i64 a1, .int .i64 a2, .int .i64 a3] 0 (.int .i64 a0) rfl
  have pa1 := hp #[.int .i64 a0, .int .i64 a1, .int .i64 a2, .int .i64 a3] 1 (.int .i64 a1) rfl
  have pa2 := hp #[.int .i64 a0, .int .i64 a1, .int .i64 a2, .int .i64 a3] 2 (.int .i64 a2) rfl
  have pa3 := hp #[.int .i64 a0, .int .i64 a1, .int .i64 a2, .int .i64 a3] 3 (.int .i64 a3) rfl
  have pb0 := hp #[.int .i64 b0, .int .i64 b1, .int .i64 b2, .int .i64 b3] 0 (.int .i64 b0) rfl
  have pb1 := hp #[.int .i64 b0, .int .i64 b1, .int .i64 b2, .int .i64 b3] 1 (.int .i64 b1) rfl
  have pb2 := hp #[.int .i64 b0, .int .i64 b1, .int .i64 b2, .int .i64 b3] 2 (.int .i64 b2) rfl
  have pb3 := hp #[.int .i64 b0, .int .i64 b1, .int .i64 b2, .int .i64 b3] 3 (.int .i64 b3) rfl
  have q0 := he a0 b0
  have q1 := he a1 b1
  have q2 := he a2 b2
  have q3 := he a3 b3
  clear he hp hs
  generalize (a0 == b0) = e0 at q0 ⊢
  generalize (a1 == b1) = e1 at q1 ⊢
  generalize (a2 == b2) = e2 at q2 ⊢
  generalize (a3 == b3) = e3 at q3 ⊢
  cases e0 <;> cases e1 <;> cases e2 <;> cases e3 <;> simp [pa0, pa1, pa2, pa3, pb0, pb1, pb2, pb3, q0, q1, q2, q3]
theorem run_eq4 (a0 a1 a2 a3 b0 b1 b2 b3 : Int) (w : World) :
    (Op.equalIn 10000 22 (.agg #[.int .i64 a0, .int .i64 a1, .int .i64 a2, .int .i64 a3]) (.agg #[.int .i64 b0, .int .i64 b1, .int .i64 b2, .int .i64 b3])).run Try.prog w = .ok (a0 == b0 && (a1 == b1 && (a2 == b2 && a3 == b3))) w := run_eq_four 9998 ..
attribute [local go_sem] run_eq4
def outB (n l m : Int) : Bool := decide (n < l) || decide (m < n)
theorem out_any (n l m : Int) (w : World) : Calls Try.prog 65 #[.int .i64 n, .int .i64 l, .int .i64 m] w fun e w' => e = .returned (.bool (outB n l m)) ∧ w = w' := by
  go_enter Try.func65, Try.ntmps65
  go_wp2
  all_goals go_ret
  all_goals exact ⟨congrArg (fun b => Ending.returned (.bool b)) (by rw [Bool.eq_iff_iff]; simp [outB] <;> omega), rfl⟩
theorem rule1 (b : Bx) (w : World) : Calls Try.prog 64 #[.agg #[.int .i64 b.d, .int .i64 b.k, .int .i64 b.s, .int .i64 b.c, .int .i64 b.w, .int .i64 b.h, .int .i64 b.m0, .int .i64 b.m1, .int .i64 b.m2, .int .i64 b.m3, .int .i64 b.e0, .int .i64 b.e1, .int .i64 b.e2, .int .i64 b.e3]] w fun e w' => e = .returned (.bool (outB b.k 1 5)) ∧ Below w.heap.size w w' := by
  go_enter Try.func64, Try.ntmps64
  go_wp2_with (first | (go_at_call 65; refine (out_any _ _ _ _).mono ?_; rintro e w' ⟨rfl, rfl⟩))
  go_ret
  exact ⟨rfl, by (repeat (first | exact Below.refl _ _ | (refine Below.alloc ?_ (by first | omega | (simp; done) | (simp; omega)) _) | (refine Below.on (by assumption) ?_ (by first | omega | (simp; done) | (simp; omega))) | (refine Below.grown ?_ (by assumption) (by first | omega | (simp; done) | (simp; omega)) (by intro k hk; cases hk)) | refine Below.drew ?_))⟩
theorem rule3 (b : Bx) (w : World) : Calls Try.prog 69 #[.agg #[.int .i64 b.d, .int .i64 b.k, .int .i64 b.s, .int .i64 b.c, .int .i64 b.w, .int .i64 b.h, .int .i64 b.m0, .int .i64 b.m1, .int .i64 b.m2, .int .i64 b.m3, .int .i64 b.e0, .int .i64 b.e1, .int .i64 b.e2, .int .i64 b.e3]] w fun e w' => e = .returned (.bool (tSide b)) ∧ Below w.heap.size w w' := by
  go_enter Try.func69, Try.ntmps69
  go_wp2_with (first | (go_at_call 65; refine (out_any _ _ _ _).mono ?_; rintro e w' ⟨rfl, rfl⟩))
  all_goals go_ret
  all_goals exact ⟨congrArg (fun b => Ending.returned (.bool b)) (by (try simp only [outB, beq_eq_false_iff_ne, ne_eq, beq_iff_eq, bne_iff_ne, Bool.or_eq_true, Bool.or_eq_false_iff, decide_eq_true_eq, decide_eq_false_iff_not] at *); (try rw [Bool.eq_iff_iff]); simp [outB, tSide] <;> omega), by (repeat (first | exact Below.refl _ _ | (refine Below.alloc ?_ (by first | omega | (simp; done) | (simp; omega)) _) | (refine Below.on (by assumption) ?_ (by first | omega | (simp; done) | (simp; omega))) | (refine Below.grown ?_ (by assumption) (by first | omega | (simp; done) | (simp; omega)) (by intro k hk; cases hk)) | refine Below.drew ?_))⟩
theorem rule4 (b : Bx) (w : World) : Calls Try.prog 70 #[.agg #[.int .i64 b.d, .int .i64 b.k, .int .i64 b.s, .int .i64 b.c, .int .i64 b.w, .int .i64 b.h, .int .i64 b.m0, .int .i64 b.m1, .int .i64 b.m2, .int .i64 b.m3, .int .i64 b.e0, .int .i64 b.e1, .int .i64 b.e2, .int .i64 b.e3]] w fun e w' => e = .returned (.bool (tClear b)) ∧ Below w.heap.size w w' := by
  go_enter Try.func70, Try.ntmps70
  go_wp2_with (first | (go_at_call 65; refine (out_any _ _ _ _).mono ?_; rintro e w' ⟨rfl, rfl⟩))
  all_goals go_ret
  all_goals exact ⟨congrArg (fun b => Ending.returned (.bool b)) (by (try simp only [outB, beq_eq_false_iff_ne, ne_eq, beq_iff_eq, bne_iff_ne, Bool.or_eq_true, Bool.or_eq_false_iff, decide_eq_true_eq, decide_eq_false_iff_not] at *); (try rw [Bool.eq_iff_iff]); simp [outB, tClear] <;> omega), by (repeat (first | exact Below.refl _ _ | (refine Below.alloc ?_ (by first | omega | (simp; done) | (simp; omega)) _) | (refine Below.on (by assumption) ?_ (by first | omega | (simp; done) | (simp; omega))) | (refine Below.grown ?_ (by assumption) (by first | omega | (simp; done) | (simp; omega)) (by intro k hk; cases hk)) | refine Below.drew ?_))⟩
theorem rule5 (b : Bx) (w : World) : Calls Try.prog 71 #[.agg #[.int .i64 b.d, .int .i64 b.k, .int .i64 b.s, .int .i64 b.c, .int .i64 b.w, .int .i64 b.h, .int .i64 b.m0, .int .i64 b.m1, .int .i64 b.m2, .int .i64 b.m3, .int .i64 b.e0, .int .i64 b.e1, .int .i64 b.e2, .int .i64 b.e3]] w fun e w' => e = .returned (.bool (tSize b)) ∧ Below w.heap.size w w' := by
  go_enter Try.func71, Try.ntmps71
  go_wp2
  all_goals go_ret
  all_goals exact ⟨congrArg (fun b => Ending.returned (.bool b)) (by (try simp only [outB, beq_eq_false_iff_ne, ne_eq, beq_iff_eq, bne_iff_ne, Bool.or_eq_true, Bool.or_eq_false_iff, decide_eq_true_eq, decide_eq_false_iff_not] at *); (try rw [Bool.eq_iff_iff]); simp [tSize] <;> omega), by (repeat (first | exact Below.refl _ _ | (refine Below.alloc ?_ (by first | omega | (simp; done) | (simp; omega)) _) | (refine Below.on (by assumption) ?_ (by first | omega | (simp; done) | (simp; omega))) | (refine Below.grown ?_ (by assumption) (by first | omega | (simp; done) | (simp; omega)) (by intro k hk; cases hk)) | refine Below.drew ?_))⟩
def tMargin (b : Bx) : Bool := decide (b.k = 5 ∧ (b.m0 ≠ 0 ∨ b.m1 ≠ 0 ∨ b.m2 ≠ 0 ∨ b.m3 ≠ 0))
set_option maxRecDepth 20000 in
theorem rule6 (b : Bx) (w : World) : Calls Try.prog 72 #[.agg #[.int .i64 b.d, .int .i64 b.k, .int .i64 b.s, .int .i64 b.c, .int .i64 b.w, .int .i64 b.h, .int .i64 b.m0, .int .i64 b.m1, .int .i64 b.m2, .int .i64 b.m3, .int .i64 b.e0, .int .i64 b.e1, .int .i64 b.e2, .int .i64 b.e3]] w fun e w' => e = .returned (.bool (tMargin b)) ∧ Below w.heap.size w w' := by
  go_enter Try.func72, Try.ntmps72
  go_wp2
  all_goals go_ret
  all_goals exact ⟨congrArg (fun b => Ending.returned (.bool b)) (by rw [Bool.eq_iff_iff]; simp [tMargin] <;> omega), by (repeat (first | exact Below.refl _ _ | (refine Below.alloc ?_ (by first | omega | (simp; done) | (simp; omega)) _) | (refine Below.on (by assumption) ?_ (by first | omega | (simp; done) | (simp; omega))) | (refine Below.grown ?_ (by assumption) (by first | omega | (simp; done) | (simp; omega)) (by intro k hk; cases hk)) | refine Below.drew ?_))⟩
theorem min4 (B off : Nat) (x0 x1 x2 x3 : Int) (w : World) (h0 : w.cell? ⟨B, off, none⟩ = some (.int .i64 x0)) (h1 : w.cell? ⟨B, off + 1, none⟩ = some (.int .i64 x1)) (h2 : w.cell? ⟨B, off + 2, none⟩ = some (.int .i64 x2)) (h3 : w.cell? ⟨B, off + 3, none⟩ = some (.int .i64 x3)) :
    Calls Try.prog 74 #[.slice (some ⟨B, off, none⟩) 4 4] w fun e w' => e = .returned (.int .i64 (min (min (min x0 x1) x2) x3)) ∧ w = w' := by
  go_enter Try.func74, Try.ntmps74
  go_wp2_with (first | refine wp_loop_rounds 4 ?_ | rw [rounds_succ])
  all_goals go_ret
  all_goals exact ⟨ret_i (by omega), rfl⟩
def tEdge (b : Bx) : Bool := decide (b.e0 < 0 ∨ b.e1 < 0 ∨ b.e2 < 0 ∨ b.e3 < 0 ∨ b.k = 5 ∧ (b.e0 ≠ 0 ∨ b.e1 ≠ 0 ∨ b.e2 ≠ 0 ∨ b.e3 ≠ 0))
set_option maxRecDepth 20000 in
theorem rule7 (b : Bx) (w : World) : Calls Try.prog 73 #[.agg #[.int .i64 b.d, .int .i64 b.k, .int .i64 b.s, .int .i64 b.c, .int .i64 b.w, .int .i64 b.h, .int .i64 b.m0, .int .i64 b.m1, .int .i64 b.m2, .int .i64 b.m3, .int .i64 b.e0, .int .i64 b.e1, .int .i64 b.e2, .int .i64 b.e3]] w fun e w' => e = .returned (.bool (tEdge b)) ∧ Below w.heap.size w w' := by
  go_enter Try.func73, Try.ntmps73
  go_wp2_with (first | (go_at_call 74; refine (min4 w.heap.size 10 b.e0 b.e1 b.e2 b.e3 _ (by simp [go_sem]) (by simp [go_sem]) (by simp [go_sem]) (by simp [go_sem])).mono ?_; rintro e w' ⟨rfl, rfl⟩))
  all_goals go_ret
  all_goals exact ⟨congrArg (fun b => Ending.returned (.bool b)) (by (try simp only [beq_eq_false_iff_ne, ne_eq, beq_iff_eq, bne_iff_ne] at *); rw [Bool.eq_iff_iff]; simp [tEdge] <;> omega), by (repeat (first | exact Below.refl _ _ | (refine Below.alloc ?_ (by first | omega | (simp; done) | (simp; omega)) _) | (refine Below.on (by assumption) ?_ (by first | omega | (simp; done) | (simp; omega))) | (refine Below.grown ?_ (by assumption) (by first | omega | (simp; done) | (simp; omega)) (by intro k hk; cases hk)) | refine Below.drew ?_))⟩
theorem rule8 (b : Bx) (w : World) : Calls Try.prog 75 #[.agg #[.int .i64 b.d, .int .i64 b.k, .int .i64 b.s, .int .i64 b.c, .int .i64 b.w, .int .i64 b.h, .int .i64 b.m0, .int .i64 b.m1, .int .i64 b.m2, .int .i64 b.m3, .int .i64 b.e0, .int .i64 b.e1, .int .i64 b.e2, .int .i64 b.e3]] w fun e w' => e = .returned (.bool (outB b.d 0 256)) ∧ Below w.heap.size w w' := by
  go_enter Try.func75, Try.ntmps75
  go_wp2_with (first | (go_at_call 65; refine (out_any _ _ _ _).mono ?_; rintro e w' ⟨rfl, rfl⟩))
  go_ret
  exact ⟨rfl, by (repeat (first | exact Below.refl _ _ | (refine Below.alloc ?_ (by first | omega | (simp; done) | (simp; omega)) _) | (refine Below.on (by assumption) ?_ (by first | omega | (simp; done) | (simp; omega))) | (refine Below.grown ?_ (by assumption) (by first | omega | (simp; done) | (simp; omega)) (by intro k hk; cases hk)) | refine Below.drew ?_))⟩
end Go.Proofs.Ytpjngnkcjccbcaa
