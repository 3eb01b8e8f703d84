/- Avoid: Near, Right, begin, the document's At. -/
import Derived.Test.YtecojcdmigmnhaaSpg
import Derived.Test.YtecojcdmigmnhaaWt9
namespace Go.Proofs.Ytecojcdmigmnhaa
set_option linter.unusedSimpArgs false
set_option linter.unusedVariables false
open Go.RowKit
def foX (f : Fo) : Nat → Int := at4 f.x0 f.y0 f.x1 f.y1
theorem fo_nth {w : World} {g o : Nat} {f : Fo} (h : w.rangeAt g o (foC f)) (k : Nat) (hk : k < 4) : w.cell? ⟨g, o + 1 + k, none⟩ = some (.int .i64 (foX f k)) := by
  match k, hk with
  | 0, _ => exact h 1 _ rfl
  | 1, _ => exact h 2 _ rfl
  | 2, _ => exact h 3 _ rfl
  | 3, _ => exact h 4 _ rfl
theorem nr_cases (c : Int) : (decide (562949953421312 < c) = true ∧ nr49 c = false) ∨ (decide (562949953421312 < c) = false ∧ decide (c < -562949953421312) = true ∧ nr49 c = false) ∨ (decide (562949953421312 < c) = false ∧ decide (c < -562949953421312) = false ∧ nr49 c = true) := by
  unfold nr49
  by_cases h1 : 562949953421312 < c
  · left; exact ⟨decide_eq_true h1, decide_eq_false (by omega)⟩
  · right
    by_cases h2 : c < -562949953421312
    · left; exact ⟨decide_eq_false h1, decide_eq_true h2, decide_eq_false (by omega)⟩
    · right; exact ⟨decide_eq_false h1, decide_eq_false h2, decide_eq_true (by omega)⟩
theorem near_not {f : Fo} {k : Nat} (h : nr49 (foX f k) = false) : nearF f = false := by
  unfold nearF
  match k, h with
  | 0, h => simp only [foX, at4] at h; simp [h]
  | 1, h => simp only [foX, at4] at h; simp [h]
  | 2, h => simp only [foX, at4] at h; simp [h]
  | _ + 3, h => simp only [foX, at4] at h; simp [h]
theorem near_yes {f : Fo} (h : ∀ k, k < 4 → nr49 (foX f k) = true) (hs : f.s = 1 ∨ f.s = 2) : nearF f = true := by
  have h0 := h 0 (by omega)
  have h1 := h 1 (by omega)
  have h2 := h 2 (by omega)
  have h3 := h 3 (by omega)
  simp only [foX, at4] at h0 h1 h2 h3
  unfold nearF
  rw [h0, h1, h2, h3, decide_eq_true hs]
  rfl
theorem near_false {L : List Fo} {i : Nat} (hi : i < L.length) (h : nearF (foAt L i) = false) : nearB L = false := by
  unfold nearB
  rw [List.all_eq_false]
  exact ⟨L[i], List.getElem_mem hi, by rw [← foAt_eq L i hi, h]; simp⟩
theorem side_cases (s : Int) : ((s != 1) = false ∧ (s = 1 ∨ s = 2)) ∨ ((s != 1) = true ∧ (s != 2) = false ∧ (s = 1 ∨ s = 2)) ∨ ((s != 1) = true ∧ (s != 2) = true ∧ ¬ (s = 1 ∨ s = 2)) := by
  by_cases h1 : s = 1
  · left; exact ⟨by simp [h1], .inl h1⟩
  · right
    by_cases h2 : s = 2
    · left; exact ⟨by simp [h1], by simp [h2], .inr h2⟩
    · right; exact ⟨by simp [h1], by simp [h2], by omega⟩
def at5 (a b c d e : Int) : Nat → Int
  | 0 => a
  | 1 => b
  | 2 => c
  | 3 => d
  | _ => e
theorem at5_row (a b c d e : Int) (k : Nat) (h : k < 5) : (#[Value.int .i64 a, .int .i64 b, .int .i64 c, .int .i64 d, .int .i64 e] : Array Value)[k]? = some (.int .i64 (at5 a b c d e k)) := by
  match k, h with
  | 0, _ => rfl
  | 1, _ => rfl
  | 2, _ => rfl
  | 3, _ => rfl
  | 4, _ => rfl
theorem in48_cases (n : Int) : (decide (281474976710656 < n) = true ∧ ¬ in48 n) ∨ (decide (281474976710656 < n) = false ∧ decide (n < -281474976710656) = true ∧ ¬ in48 n) ∨ (decide (281474976710656 < n) = false ∧ decide (n < -281474976710656) = false ∧ in48 n) := by
  unfold in48
  by_cases h1 : 281474976710656 < n
  · left; exact ⟨decide_eq_true h1, by omega⟩
  · right
    by_cases h2 : n < -281474976710656
    · left; exact ⟨decide_eq_false h1, decide_eq_true h2, by omega⟩
    · right; exact ⟨decide_eq_false h1, decide_eq_false h2, by omega, by omega⟩
end Go.Proofs.Ytecojcdmigmnhaa
