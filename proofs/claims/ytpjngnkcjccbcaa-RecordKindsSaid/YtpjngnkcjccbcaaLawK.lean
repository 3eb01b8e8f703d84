/- The plain law of RecordKinds. -/
import Derived.Test.YtpjngnkcjccbcaaLawT
namespace Go.Proofs.Ytpjngnkcjccbcaa
set_option linter.unusedSimpArgs false
set_option linter.unusedVariables false
def okK (b : Bx) (k : Int) : Prop := (k = 2 ↔ b.s ≠ 0) ∧ (k = 2 → 0 ≤ b.w) ∧ (k = 5 → b.c = 0 ∧ 0 ≤ b.w ∧ 0 ≤ b.h ∧ (b.m0 = 0 ∧ b.m1 = 0 ∧ b.m2 = 0 ∧ b.m3 = 0) ∧ (b.e0 = 0 ∧ b.e1 = 0 ∧ b.e2 = 0 ∧ b.e3 = 0))
theorem rB_ok (b : Bx) : rB b = 0 ↔ ¬ (b.k = 5 ∧ (b.m0 ≠ 0 ∨ b.m1 ≠ 0 ∨ b.m2 ≠ 0 ∨ b.m3 ≠ 0)) ∧ ¬ (b.e0 < 0 ∨ b.e1 < 0 ∨ b.e2 < 0 ∨ b.e3 < 0 ∨ b.k = 5 ∧ (b.e0 ≠ 0 ∨ b.e1 ≠ 0 ∨ b.e2 ≠ 0 ∨ b.e3 ≠ 0)) ∧ ¬ (b.d < 0 ∨ 256 < b.d) := by
  unfold rB
  constructor
  · intro h
    by_cases h1 : b.k = 5 ∧ (b.m0 ≠ 0 ∨ b.m1 ≠ 0 ∨ b.m2 ≠ 0 ∨ b.m3 ≠ 0)
    · rw [if_pos h1] at h; omega
    rw [if_neg h1] at h
    by_cases h2 : b.e0 < 0 ∨ b.e1 < 0 ∨ b.e2 < 0 ∨ b.e3 < 0 ∨ b.k = 5 ∧ (b.e0 ≠ 0 ∨ b.e1 ≠ 0 ∨ b.e2 ≠ 0 ∨ b.e3 ≠ 0)
    · rw [if_pos h2] at h; omega
    rw [if_neg h2] at h
    by_cases h3 : b.d < 0 ∨ 256 < b.d
    · rw [if_pos h3] at h; omega
    exact ⟨h1, h2, h3⟩
  · rintro ⟨h1, h2, h3⟩
    rw [if_neg h1, if_neg h2, if_neg h3]
theorem kinds_iff (b : Bx) (k : Int) (h : rchk b = 0) (hk : 1 ≤ k ∧ k ≤ 5) : rchk { b with k := k } = 0 ↔ okK b k := by
  obtain ⟨⟨k1, k2⟩, ⟨h1, h2⟩, ⟨m0, m1, m2, m3⟩, ⟨e0, e1, e2, e3⟩, s1, s2, s3, r⟩ := (rchk_ok b).1 h
  have r' := (rB_ok b).1 r
  rw [rchk_ok, rB_ok]
  simp only [tSide, tClear, tSize, decide_eq_false_iff_not] at s1 s2 s3 ⊢
  unfold okK
  constructor
  · rintro ⟨_, _, _, _, a1, a2, a3, a4⟩
    refine ⟨by omega, by omega, fun h5 => ⟨by omega, by omega, by omega, by omega, by omega⟩⟩
  · rintro ⟨a1, a2, a3⟩
    refine ⟨hk, ⟨h1, h2⟩, ⟨m0, m1, m2, m3⟩, ⟨e0, e1, e2, e3⟩, by omega, ?_, ?_, ?_, ?_, ?_⟩
    all_goals (by_cases h5 : k = 5 <;> (try have a5 := a3 h5) <;> omega)
end Go.Proofs.Ytpjngnkcjccbcaa
