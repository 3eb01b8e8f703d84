/- Floats in memory, as the laws get them; Small, Of, Few. -/
import Derived.Test.YtnkbbobdhcloeaaBd
namespace Go.Proofs.Ytnkbbobdhcloeaa
set_option linter.unusedSimpArgs false
set_option linter.unusedVariables false
open Go.RowKit
def foC (f : Fo) : List Value := [.int .i64 f.s, .int .i64 f.x0, .int .i64 f.y0, .int .i64 f.x1, .int .i64 f.y1]
def fo0 : Fo := ⟨0, 0, 0, 0, 0⟩
def foAt (L : List Fo) (i : Nat) : Fo := L.getD i fo0
theorem foAt_eq (L : List Fo) (i : Nat) (h : i < L.length) : foAt L i = L[i] := by simp [foAt, List.getD_eq_getElem?_getD, List.getElem?_eq_getElem h]
theorem floatInfo : (Try.prog.info? 68).map (·.size) = some 5 := by kernel_rfl
/-- A slice of floats that came in. -/
def IsFos (w : World) (v : Value) (L : List Fo) : Prop := ∃ (A : Option Addr) (cap : Nat), v = .slice A L.length cap ∧ L.length ≤ cap ∧
  (0 < L.length → ∃ g o, A = some ⟨g, o, none⟩ ∧ g < w.heap.size ∧ ∀ k, k < L.length → w.rangeAt g (o + k * 5) (foC (foAt L k)))
theorem IsFos.below {w w' : World} {v : Value} {L : List Fo} {n : Nat} (h : IsFos w v L) (hb : Below n w w') (hn : w.heap.size ≤ n) : IsFos w' v L := by
  obtain ⟨A, cap, rfl, hc, hA⟩ := h
  refine ⟨A, cap, rfl, hc, fun h0 => ?_⟩
  obtain ⟨g, o, rfl, hg, hs⟩ := hA h0
  refine ⟨g, o, rfl, by have := hb.size; omega, fun k hk j v hv => ?_⟩
  exact (hb.cell (p := ⟨g, o + k * 5 + j, none⟩) (by show g < n; omega)).trans (hs k hk j v hv)
theorem fo_cells {w : World} {g o : Nat} {f : Fo} (h : w.rangeAt g o (foC f)) :
    w.cell? ⟨g, o, none⟩ = some (.int .i64 f.s) ∧ w.cell? ⟨g, o + 1, none⟩ = some (.int .i64 f.x0) ∧ w.cell? ⟨g, o + 2, none⟩ = some (.int .i64 f.y0) ∧ w.cell? ⟨g, o + 3, none⟩ = some (.int .i64 f.x1) ∧ w.cell? ⟨g, o + 4, none⟩ = some (.int .i64 f.y1) :=
  ⟨h 0 _ rfl, h 1 _ rfl, h 2 _ rfl, h 3 _ rfl, h 4 _ rfl⟩
def smI (c : Int) : Bool := decide (-2251799813685248 < c ∧ c < 2251799813685248)
def smallR (a b c d : Int) : Bool := smI a && smI b && smI c && smI d
def smallF (f : Fo) : Bool := smallR f.x0 f.y0 f.x1 f.y1
def fewB (L : List Fo) (m : Int) : Bool := L.all smallF && decide ((L.length : Int) ≤ m)
theorem smI_cases (c : Int) : (smI c = false ∧ decide (c ≤ -2251799813685248) = true) ∨ (smI c = false ∧ decide (c ≤ -2251799813685248) = false ∧ decide (2251799813685248 ≤ c) = true) ∨ (smI c = true ∧ decide (c ≤ -2251799813685248) = false ∧ decide (2251799813685248 ≤ c) = false) := by
  unfold smI
  by_cases h1 : c ≤ -2251799813685248
  · left; exact ⟨decide_eq_false (by omega), decide_eq_true h1⟩
  · right
    by_cases h2 : 2251799813685248 ≤ c
    · left; exact ⟨decide_eq_false (by omega), decide_eq_false h1, decide_eq_true h2⟩
    · right; exact ⟨decide_eq_true (by omega), decide_eq_false h1, decide_eq_false h2⟩
def at4 (a b c d : Int) : Nat → Int
  | 0 => a
  | 1 => b
  | 2 => c
  | _ => d
theorem small_all (a b c d : Int) (h : ∀ j, j < 4 → smI (at4 a b c d j) = true) : smallR a b c d = true := by
  have h0 := h 0 (by omega)
  have h1 := h 1 (by omega)
  have h2 := h 2 (by omega)
  have h3 := h 3 (by omega)
  simp only [at4] at h0 h1 h2 h3
  simp [smallR, h0, h1, h2, h3]
theorem small_not (a b c d : Int) (j : Nat) (h : smI (at4 a b c d j) = false) : smallR a b c d = false := by
  match j, h with
  | 0, h => simp only [at4] at h; simp [smallR, h]
  | 1, h => simp only [at4] at h; simp [smallR, h]
  | 2, h => simp only [at4] at h; simp [smallR, h]
  | _ + 3, h => simp only [at4] at h; simp [smallR, h]
end Go.Proofs.Ytnkbbobdhcloeaa
