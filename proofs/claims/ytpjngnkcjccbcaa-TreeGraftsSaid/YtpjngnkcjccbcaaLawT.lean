/- The walk of the law RecordTurns. -/
import Derived.Test.YtpjngnkcjccbcaaLaw4
namespace Go.Proofs.Ytpjngnkcjccbcaa
set_option linter.unusedSimpArgs false
set_option linter.unusedVariables false
open Go.RowKit
/-- The box whose margin, or edge, number i is turned. -/
def turnM (b : Bx) (i : Nat) (x : Int) : Bx := if i = 0 then { b with m0 := x } else if i = 1 then { b with m1 := x } else if i = 2 then { b with m2 := x } else { b with m3 := x }
def turnE (b : Bx) (i : Nat) (x : Int) : Bx := if i = 0 then { b with e0 := x } else if i = 1 then { b with e1 := x } else if i = 2 then { b with e2 := x } else { b with e3 := x }
def wantM (k x : Int) : Int := if 268435456 < x ∨ x < -268435456 then 10 else if k = 5 ∧ x ≠ 0 then 8 else 0
def wantE (k x : Int) : Int := if 268435456 < x ∨ x < -268435456 then 10 else if x < 0 ∨ k = 5 ∧ x ≠ 0 then 9 else 0
/-- What a box that may be is, number by number. -/
theorem rchk_ok (b : Bx) : rchk b = 0 ↔ (1 ≤ b.k ∧ b.k ≤ 5) ∧ (bigB b.w = false ∧ bigB b.h = false) ∧ (bigB b.m0 = false ∧ bigB b.m1 = false ∧ bigB b.m2 = false ∧ bigB b.m3 = false) ∧ (bigB b.e0 = false ∧ bigB b.e1 = false ∧ bigB b.e2 = false ∧ bigB b.e3 = false) ∧
    tSide b = false ∧ tClear b = false ∧ tSize b = false ∧ rB b = 0 := by
  unfold rchk
  constructor
  · intro h
    repeat' (split at h)
    all_goals first | omega | skip
    simp_all
  · rintro ⟨⟨h1, h2⟩, ⟨h3, h4⟩, ⟨h5, h6, h7, h8⟩, ⟨h9, h10, h11, h12⟩, h13, h14, h15, h16⟩
    rw [if_neg (by omega)]
    simp [h3, h4, h5, h6, h7, h8, h9, h10, h11, h12, h13, h14, h15, h16]
theorem bigB_iff (x : Int) : bigB x = true ↔ (268435456 < x ∨ x < -268435456) := by simp [bigB]
theorem bigB_not (x : Int) : bigB x = false ↔ ¬ (268435456 < x ∨ x < -268435456) := by rw [← bigB_iff]; simp
theorem rchk_mid {b : Bx} (hk : 1 ≤ b.k ∧ b.k ≤ 5) (h1 : bigB b.w = false) (h2 : bigB b.h = false) (m0 : bigB b.m0 = false) (m1 : bigB b.m1 = false) (m2 : bigB b.m2 = false) (m3 : bigB b.m3 = false)
    (e0 : bigB b.e0 = false) (e1 : bigB b.e1 = false) (e2 : bigB b.e2 = false) (e3 : bigB b.e3 = false) (s1 : tSide b = false) (s2 : tClear b = false) (s3 : tSize b = false) : rchk b = rB b := by
  unfold rchk
  rw [if_neg (by omega)]
  simp [h1, h2, m0, m1, m2, m3, e0, e1, e2, e3, s1, s2, s3]
theorem rchk_big {b : Bx} (hk : 1 ≤ b.k ∧ b.k ≤ 5) (h : bigB b.m0 = true ∨ bigB b.m1 = true ∨ bigB b.m2 = true ∨ bigB b.m3 = true ∨ bigB b.e0 = true ∨ bigB b.e1 = true ∨ bigB b.e2 = true ∨ bigB b.e3 = true) : rchk b = 10 := by
  unfold rchk
  rw [if_neg (by omega)]
  repeat' split
  all_goals first | rfl | (exfalso; simp_all; done)
theorem turnM_eq (b : Bx) (i : Nat) (x : Int) (h : rchk b = 0) : rchk (turnM b i x) = wantM b.k x := by
  obtain ⟨⟨k1, k2⟩, ⟨h1, h2⟩, ⟨m0, m1, m2, m3⟩, ⟨e0, e1, e2, e3⟩, s1, s2, s3, r⟩ := (rchk_ok b).1 h
  have t1 : tSide (turnM b i x) = false := by rw [← s1]; unfold turnM; (repeat' split) <;> rfl
  have t2 : tClear (turnM b i x) = false := by rw [← s2]; unfold turnM; (repeat' split) <;> rfl
  have t3 : tSize (turnM b i x) = false := by rw [← s3]; unfold turnM; (repeat' split) <;> rfl
  clear h s1 s2 s3
  unfold wantM
  by_cases hx : 268435456 < x ∨ x < -268435456
  · rw [if_pos hx]
    have hb := (bigB_iff x).2 hx
    unfold turnM
    (repeat' split) <;> exact rchk_big ⟨k1, k2⟩ (by simp [hb])
  · rw [if_neg hx]
    have hb := (bigB_not x).2 hx
    have h7 : rchk (turnM b i x) = rB (turnM b i x) := by
      revert t1 t2 t3
      unfold turnM
      (repeat' split) <;> intro t1 t2 t3 <;> exact rchk_mid ⟨k1, k2⟩ h1 h2 (by first | exact hb | assumption) (by first | exact hb | assumption) (by first | exact hb | assumption) (by first | exact hb | assumption) e0 e1 e2 e3 t1 t2 t3
    rw [h7]
    clear h7 t1 t2 t3 m0 m1 m2 m3 e0 e1 e2 e3 hb h1 h2
    unfold rB at r ⊢
    by_cases h8 : b.k = 5 ∧ (b.m0 ≠ 0 ∨ b.m1 ≠ 0 ∨ b.m2 ≠ 0 ∨ b.m3 ≠ 0)
    · rw [if_pos h8] at r; omega
    rw [if_neg h8] at r
    by_cases h9 : b.e0 < 0 ∨ b.e1 < 0 ∨ b.e2 < 0 ∨ b.e3 < 0 ∨ b.k = 5 ∧ (b.e0 ≠ 0 ∨ b.e1 ≠ 0 ∨ b.e2 ≠ 0 ∨ b.e3 ≠ 0)
    · rw [if_pos h9] at r; omega
    rw [if_neg h9] at r
    by_cases h10 : b.d < 0 ∨ 256 < b.d
    · rw [if_pos h10] at r; omega
    unfold turnM
    by_cases hw : b.k = 5 ∧ x ≠ 0
    · rw [if_pos hw]
      (repeat' split) <;> first | rfl | omega | (simp only [] at *; omega)
    · rw [if_neg hw]
      (repeat' split) <;> first | rfl | omega | (simp only [] at *; omega)
theorem turnE_eq (b : Bx) (i : Nat) (x : Int) (h : rchk b = 0) : rchk (turnE b i x) = wantE b.k x := by
  obtain ⟨⟨k1, k2⟩, ⟨h1, h2⟩, ⟨m0, m1, m2, m3⟩, ⟨e0, e1, e2, e3⟩, s1, s2, s3, r⟩ := (rchk_ok b).1 h
  have t1 : tSide (turnE b i x) = false := by rw [← s1]; unfold turnE; (repeat' split) <;> rfl
  have t2 : tClear (turnE b i x) = false := by rw [← s2]; unfold turnE; (repeat' split) <;> rfl
  have t3 : tSize (turnE b i x) = false := by rw [← s3]; unfold turnE; (repeat' split) <;> rfl
  clear h s1 s2 s3
  unfold wantE
  by_cases hx : 268435456 < x ∨ x < -268435456
  · rw [if_pos hx]
    have hb := (bigB_iff x).2 hx
    unfold turnE
    (repeat' split) <;> exact rchk_big ⟨k1, k2⟩ (by simp [hb])
  · rw [if_neg hx]
    have hb := (bigB_not x).2 hx
    have h7 : rchk (turnE b i x) = rB (turnE b i x) := by
      revert t1 t2 t3
      unfold turnE
      (repeat' split) <;> intro t1 t2 t3 <;> exact rchk_mid ⟨k1, k2⟩ h1 h2 m0 m1 m2 m3 (by first | exact hb | assumption) (by first | exact hb | assumption) (by first | exact hb | assumption) (by first | exact hb | assumption) t1 t2 t3
    rw [h7]
    clear h7 t1 t2 t3 m0 m1 m2 m3 e0 e1 e2 e3 hb h1 h2
    unfold rB at r ⊢
    by_cases h8 : b.k = 5 ∧ (b.m0 ≠ 0 ∨ b.m1 ≠ 0 ∨ b.m2 ≠ 0 ∨ b.m3 ≠ 0)
    · rw [if_pos h8] at r; omega
    rw [if_neg h8] at r
    by_cases h9 : b.e0 < 0 ∨ b.e1 < 0 ∨ b.e2 < 0 ∨ b.e3 < 0 ∨ b.k = 5 ∧ (b.e0 ≠ 0 ∨ b.e1 ≠ 0 ∨ b.e2 ≠ 0 ∨ b.e3 ≠ 0)
    · rw [if_pos h9] at r; omega
    rw [if_neg h9] at r
    by_cases h10 : b.d < 0 ∨ 256 < b.d
    · rw [if_pos h10] at r; omega
    unfold turnE
    by_cases hw : x < 0 ∨ b.k = 5 ∧ x ≠ 0
    · rw [if_pos hw]
      (repeat' split) <;> first | rfl | omega | (simp only [] at *; omega)
    · rw [if_neg hw]
      (repeat' split) <;> first | rfl | omega | (simp only [] at *; omega)
end Go.Proofs.Ytpjngnkcjccbcaa
