/- The frame behind a region of two placings. -/
import Derived.Test.YtnkbbobdhcloeaaRv5
namespace Go.Proofs.Ytnkbbobdhcloeaa
set_option linter.unusedSimpArgs false
set_option linter.unusedVariables false
open Go.RowKit
def ptr0 (b : Nat) : Value := .pointer (some ⟨b, 0, none⟩)
theorem set_at {T : Array Value} {k d : Nat} {v : Value} (h : d < T.size) : (T.setIfInBounds d v)[k]? = if k = d then some v else T[k]? := by
  rw [Array.getElem?_setIfInBounds]
  by_cases e : d = k
  · subst e; simp [h]
  · simp [e, Ne.symm e]
set_option maxHeartbeats 4000000 in
theorem frame2 {n : Nat} {T : Array Value} {d : Nat → Nat} {sv u1 k1 sx u2 k2 : Value} {r1 r2 : Int × Int × Int × Int} {w0 w : World} {a : Act} (hdT : ∀ i, i < 10 → d i < T.size) (hB : Base2 w0 T ((List.range 10).map d) (d 8) (d 9) a w) (hR : ∀ i, i < 12 → R2 n d sv u1 k1 sx u2 k2 r1 r2 i a w) :
    ∃ bA bB, a = ⟨(((((((((((T.setIfInBounds (d 0) sv).setIfInBounds (d 1) u1).setIfInBounds (d 2) k1).setIfInBounds (d 3) (agg4 r1)).setIfInBounds (d 4) sx).setIfInBounds (d 5) u2).setIfInBounds (d 6) k2).setIfInBounds (d 7) (agg4 r2)).setIfInBounds (d 8) (ptr0 bA)).setIfInBounds (d 9) (ptr0 bB))), []⟩ ∧
      Is4 bA r1 w ∧ Is4 bB r2 w ∧ bA ≠ bB ∧ n ≤ bA ∧ n ≤ bB ∧ Below w0.heap.size w0 w := by
  obtain ⟨bA, hA, hnA, hvA⟩ := hR 10 (by omega)
  obtain ⟨bB, hBp, hnB, hvB⟩ := hR 11 (by omega)
  refine ⟨bA, bB, ?_, hvA, hvB, (hB.2.2.2.2.1 bA hA).2 bB hBp, hnA, hnB, hB.1⟩
  obtain ⟨tm, df⟩ := a
  have hdf : df = [] := hB.2.2.1
  subst hdf
  refine congrArg (fun t => Act.mk t []) (Array.ext_getElem? ?_)
  intro k
  have h0 := hdT 0 (by omega)
  have h1 := hdT 1 (by omega)
  have h2 := hdT 2 (by omega)
  have h3 := hdT 3 (by omega)
  have h4 := hdT 4 (by omega)
  have h5 := hdT 5 (by omega)
  have h6 := hdT 6 (by omega)
  have h7 := hdT 7 (by omega)
  have h8 := hdT 8 (by omega)
  have h9 := hdT 9 (by omega)
  rw [set_at (by simpa using h9), set_at (by simpa using h8), set_at (by simpa using h7), set_at (by simpa using h6), set_at (by simpa using h5), set_at (by simpa using h4), set_at (by simpa using h3), set_at (by simpa using h2), set_at (by simpa using h1), set_at h0]
  split
  · rename_i e; rw [e]; exact hBp
  split
  · rename_i e; rw [e]; exact hA
  split
  · rename_i e; rw [e]; exact hR 7 (by omega)
  split
  · rename_i e; rw [e]; exact hR 6 (by omega)
  split
  · rename_i e; rw [e]; exact hR 5 (by omega)
  split
  · rename_i e; rw [e]; exact hR 4 (by omega)
  split
  · rename_i e; rw [e]; exact hR 3 (by omega)
  split
  · rename_i e; rw [e]; exact hR 2 (by omega)
  split
  · rename_i e; rw [e]; exact hR 1 (by omega)
  split
  · rename_i e; rw [e]; exact hR 0 (by omega)
  · rename_i e9 e8 e7 e6 e5 e4 e3 e2 e1 e0
    refine hB.2.2.2.1 k (fun hk => ?_)
    obtain ⟨i, hi, rfl⟩ := List.mem_map.1 hk
    have hi := List.mem_range.1 hi
    match i, hi with
    | 0, _ => exact e0 rfl
    | 1, _ => exact e1 rfl
    | 2, _ => exact e2 rfl
    | 3, _ => exact e3 rfl
    | 4, _ => exact e4 rfl
    | 5, _ => exact e5 rfl
    | 6, _ => exact e6 rfl
    | 7, _ => exact e7 rfl
    | 8, _ => exact e8 rfl
    | 9, _ => exact e9 rfl
end Go.Proofs.Ytnkbbobdhcloeaa
