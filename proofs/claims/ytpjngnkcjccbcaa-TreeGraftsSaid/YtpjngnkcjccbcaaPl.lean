/- The plain law: what the program asks of a box, rule by rule, is what the document asks. -/
import Derived.Test.YtpjngnkcjccbcaaPlDef
namespace Go.Proofs.Ytpjngnkcjccbcaa
set_option linter.unusedSimpArgs false
set_option linter.unusedVariables false
theorem idxB_some (l : List Int) (k : Nat) : 0 ≤ idxB l k ↔ ∃ x ∈ l, bigB x = true := by
  induction l generalizing k with
  | nil => simp [idxB]
  | cons x l ih =>
    unfold idxB
    by_cases h : bigB x = true
    · simp [h]
    · rw [if_neg h, ih]
      simp [h]
theorem tBig_iff (b : Bx) : tBig b = true ↔ (bigB b.w = true ∨ bigB b.h = true ∨ bigB b.m0 = true ∨ bigB b.m1 = true ∨ bigB b.m2 = true ∨ bigB b.m3 = true ∨ bigB b.e0 = true ∨ bigB b.e1 = true ∨ bigB b.e2 = true ∨ bigB b.e3 = true) := by
  unfold tBig
  rw [decide_eq_true_eq, idxB_some]
  simp [nums]
theorem chk_eq (b : Bx) : pchk b = rchk b := by
  have hb := tBig_iff b
  unfold pchk rchk rB
  by_cases hk : b.k < 1 ∨ 5 < b.k
  · rw [if_pos hk, if_pos (by simp [outB]; omega)]
  · rw [if_neg hk, if_neg (by simp [outB]; omega)]
    by_cases h1 : bigB b.w = true ∨ bigB b.h = true
    · rw [if_pos h1, if_pos (hb.2 (by rcases h1 with h | h <;> simp [h]))]
    rw [if_neg h1]
    by_cases h2 : bigB b.m0 = true ∨ bigB b.e0 = true
    · rw [if_pos h2, if_pos (hb.2 (by rcases h2 with h | h <;> simp [h]))]
    rw [if_neg h2]
    by_cases h3 : bigB b.m1 = true ∨ bigB b.e1 = true
    · rw [if_pos h3, if_pos (hb.2 (by rcases h3 with h | h <;> simp [h]))]
    rw [if_neg h3]
    by_cases h4 : bigB b.m2 = true ∨ bigB b.e2 = true
    · rw [if_pos h4, if_pos (hb.2 (by rcases h4 with h | h <;> simp [h]))]
    rw [if_neg h4]
    by_cases h5 : bigB b.m3 = true ∨ bigB b.e3 = true
    · rw [if_pos h5, if_pos (hb.2 (by rcases h5 with h | h <;> simp [h]))]
    rw [if_neg h5]
    have hn : ¬ tBig b = true := by
      rw [hb]
      simp only [not_or] at *
      exact ⟨h1.1, h1.2, h2.1, h3.1, h4.1, h5.1, h2.2, h3.2, h4.2, h5.2⟩
    rw [if_neg hn]
    by_cases s1 : tSide b = true
    · rw [if_pos s1, if_pos s1]
    rw [if_neg s1, if_neg s1]
    by_cases s2 : tClear b = true
    · rw [if_pos s2, if_pos s2]
    rw [if_neg s2, if_neg s2]
    by_cases s3 : tSize b = true
    · rw [if_pos s3, if_pos s3]
    rw [if_neg s3, if_neg s3]
    simp only [tMargin, tEdge, outB, decide_eq_true_eq, Bool.or_eq_true]
end Go.Proofs.Ytpjngnkcjccbcaa
