/- A box, and small words. -/
import Derived.Test.YtpjngnkcjccbcaaProg
import Derived.Test.YtpjngnkcjccbcaaLg
namespace Go.Proofs.Ytpjngnkcjccbcaa
set_option linter.unusedSimpArgs false
set_option linter.unusedVariables false
open Go.RowKit
structure Bx where
  (d k s c w h m0 m1 m2 m3 e0 e1 e2 e3 : Int)
theorem ret_i {a b : Int} (h : a = b) : Ending.returned (.int .i64 a) = .returned (.int .i64 b) := by rw [h]
def bigB (n : Int) : Bool := decide (268435456 < n) || decide (n < -268435456)
theorem big_any (n : Int) (w : World) : Calls Try.prog 52 #[.int .i64 n] w fun e w' => e = .returned (.bool (bigB n)) ∧ w = w' := by
  go_enter Try.func52, Try.ntmps52
  go_wp2
  all_goals go_ret
  all_goals (exact ⟨by unfold bigB; simp <;> omega, rfl⟩)
def tSide (b : Bx) : Bool := decide (b.k = 2 ∧ b.s ≠ 1 ∧ b.s ≠ 2 ∨ b.k ≠ 2 ∧ b.s ≠ 0)
def tClear (b : Bx) : Bool := decide (b.c < 0 ∨ 3 < b.c ∨ b.k = 5 ∧ b.c ≠ 0)
def tSize (b : Bx) : Bool := decide (b.w < -1 ∨ b.h < -1 ∨ b.w = -1 ∧ (b.k = 2 ∨ b.k = 5) ∨ b.h = -1 ∧ b.k = 5)
def rB (b : Bx) : Int :=
  if b.k = 5 ∧ (b.m0 ≠ 0 ∨ b.m1 ≠ 0 ∨ b.m2 ≠ 0 ∨ b.m3 ≠ 0) then 8 else
  if b.e0 < 0 ∨ b.e1 < 0 ∨ b.e2 < 0 ∨ b.e3 < 0 ∨ b.k = 5 ∧ (b.e0 ≠ 0 ∨ b.e1 ≠ 0 ∨ b.e2 ≠ 0 ∨ b.e3 ≠ 0) then 9 else
  if b.d < 0 ∨ 256 < b.d then 11 else 0
/-- What is wrong with a box by itself: the error's number. -/
def rchk (b : Bx) : Int :=
  if b.k < 1 ∨ 5 < b.k then 4 else
  if bigB b.w ∨ bigB b.h then 10 else
  if bigB b.m0 ∨ bigB b.e0 then 10 else
  if bigB b.m1 ∨ bigB b.e1 then 10 else
  if bigB b.m2 ∨ bigB b.e2 then 10 else
  if bigB b.m3 ∨ bigB b.e3 then 10 else
  if tSide b then 5 else
  if tClear b then 6 else
  if tSize b then 7 else rB b
end Go.Proofs.Ytpjngnkcjccbcaa
