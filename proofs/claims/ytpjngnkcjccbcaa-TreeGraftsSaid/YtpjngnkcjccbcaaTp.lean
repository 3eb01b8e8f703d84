/- Which boxes may be a tree: plain. -/
import Derived.Test.YtpjngnkcjccbcaaTr4
import Derived.Test.YtpjngnkcjccbcaaLawT
namespace Go.Proofs.Ytpjngnkcjccbcaa
set_option linter.unusedSimpArgs false
set_option linter.unusedVariables false
open Go.RowKit
def rootBad (b : Bx) : Bool := decide (b.d ≠ 0 ∨ b.k ≠ 3 ∨ b.w < 0 ∨ b.c ≠ 0 ∨ b.m0 ≠ 0 ∨ b.m1 ≠ 0 ∨ b.m2 ≠ 0 ∨ b.m3 ≠ 0)
/-- What is wrong with the box at a place, when nothing is with those ahead: the error's number. -/
def badS (L : List Bx) (i : Nat) : Int :=
  if i = 65536 then 3 else
  if rchk (at_ L i) ≠ 0 then rchk (at_ L i) else
  if i = 0 then (if rootBad (at_ L i) = true then 12 else 0) else
  if dep L i = 0 ∨ dep L (i - 1) + 1 < dep L i then 12 else
  if fitsB (knd L (parentS L i).toNat) (knd L i) = true then 0 else 12
def chkUp (L : List Bx) (k : Nat) : Int × Int := if h : k < L.length then (if badS L k ≠ 0 then ((k : Int), badS L k) else chkUp L (k + 1)) else (-1, 0)
  termination_by L.length - k
theorem chkUp_eq (L : List Bx) (k : Nat) : chkUp L k = if k < L.length then (if badS L k ≠ 0 then ((k : Int), badS L k) else chkUp L (k + 1)) else (-1, 0) := by
  rw [chkUp]
  split <;> rfl
def chkS (L : List Bx) : Int × Int := if L.length = 0 then (-1, 15) else chkUp L 0
/-- Nothing is wrong with the boxes ahead of a place. -/
def Good (L : List Bx) (n : Nat) : Prop := ∀ j, j < n → badS L j = 0
theorem rchk_dep {b : Bx} (h : rchk b = 0) : 0 ≤ b.d ∧ b.d ≤ 256 := by
  have h1 := ((rchk_ok b).1 h).2.2.2.2.2.2.2
  unfold rB at h1
  repeat' split at h1
  all_goals first | omega | (exfalso; omega)
theorem bad_rchk {L : List Bx} {i : Nat} (h : badS L i = 0) : rchk (at_ L i) = 0 := by
  unfold badS at h
  by_cases h1 : i = 65536
  · rw [if_pos h1] at h; omega
  rw [if_neg h1] at h
  by_cases h2 : rchk (at_ L i) = 0
  · exact h2
  · rw [if_pos h2] at h; exact h
theorem bad_root {L : List Bx} (h : badS L 0 = 0) : dep L 0 = 0 := by
  have h2 := bad_rchk h
  unfold badS at h
  rw [if_neg (by omega), if_neg (by simpa using h2), if_pos rfl] at h
  by_cases h3 : rootBad (at_ L 0) = true
  · rw [if_pos h3] at h; omega
  · simp [rootBad] at h3
    exact h3.1
theorem bad_step {L : List Bx} {i : Nat} (hi : 0 < i) (h : badS L i = 0) : dep L i ≠ 0 ∧ dep L i ≤ dep L (i - 1) + 1 ∧ fitsB (knd L (parentS L i).toNat) (knd L i) = true := by
  have h2 := bad_rchk h
  unfold badS at h
  by_cases h1 : i = 65536
  · rw [if_pos h1] at h; omega
  rw [if_neg h1, if_neg (by simpa using h2), if_neg (by omega)] at h
  by_cases h3 : dep L i = 0 ∨ dep L (i - 1) + 1 < dep L i
  · rw [if_pos h3] at h; omega
  rw [if_neg h3] at h
  by_cases h4 : fitsB (knd L (parentS L i).toNat) (knd L i) = true
  · exact ⟨by omega, by omega, h4⟩
  · rw [if_neg h4] at h; omega
theorem good_dep {L : List Bx} {n j : Nat} (h : Good L n) (hj : j < n) : 0 ≤ dep L j ∧ dep L j ≤ 256 := rchk_dep (bad_rchk (h j hj))
theorem parUp_found {L : List Bx} : ∀ (n : Nat), Good L n → ∀ (t : Int), 0 < n → 0 ≤ t → t ≤ dep L (n - 1) → 0 ≤ parUp L t n := by
  intro n
  induction n with
  | zero => intro _ _ h; omega
  | succ n ih =>
    intro hg t _ h0 ht
    unfold parUp
    split
    · omega
    · rename_i hne
      rcases Nat.eq_zero_or_pos n with hz | hz
      · subst hz
        have := bad_root (hg 0 (by omega))
        simp at ht
        omega
      · have hs := bad_step hz (hg n (by omega))
        simp only [Nat.add_sub_cancel] at ht
        exact ih (fun j hj => hg j (by omega)) t hz h0 (by omega)
theorem parent_found {L : List Bx} {i : Nat} (hg : Good L i) (hi : 0 < i) (h1 : 1 ≤ dep L i) (h2 : dep L i ≤ dep L (i - 1) + 1) : 0 ≤ parentS L i := parUp_found i hg _ hi (by omega) (by omega)
theorem chkUp_of (L : List Bx) (k : Nat) (h : k ≤ L.length) (hg : chkUp L k = (-1, 0)) : ∀ j, k ≤ j → j < L.length → badS L j = 0 := by
  intro j hj hl
  rw [chkUp_eq, if_pos (by omega)] at hg
  by_cases hb : badS L k = 0
  · rw [if_neg (by simpa using hb)] at hg
    by_cases e : j = k
    · subst e; exact hb
    · exact chkUp_of L (k + 1) (by omega) hg j (by omega) hl
  · rw [if_pos hb] at hg
    simp only [Prod.mk.injEq] at hg
    omega
  termination_by L.length - k
theorem chkUp_snd (L : List Bx) (k : Nat) (h : (chkUp L k).2 = 0) : chkUp L k = (-1, 0) := by
  rw [chkUp_eq] at h ⊢
  split at h
  · split at h
    · rename_i hb; exact absurd h hb
    · rename_i hlt hb
      rw [if_pos hlt, if_neg hb]
      exact chkUp_snd L (k + 1) h
  · rename_i hlt; rw [if_neg hlt]
  termination_by L.length - k
/-- Boxes of which nothing is wrong. -/
theorem chkS_ok (L : List Bx) (h : (chkS L).2 = 0) : 0 < L.length ∧ Good L L.length := by
  unfold chkS at h
  by_cases h0 : L.length = 0
  · rw [if_pos h0] at h; simp at h
  · rw [if_neg h0] at h
    exact ⟨by omega, fun j hj => chkUp_of L 0 (by omega) (chkUp_snd L 0 h) j (by omega) hj⟩
end Go.Proofs.Ytpjngnkcjccbcaa
