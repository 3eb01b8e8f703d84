/- The law's own functions: Of, Few, begin, speaks. -/
import Derived.Test.YtnkbbobdhcloeaaFx
namespace Go.Proofs.Ytnkbbobdhcloeaa
set_option linter.unusedSimpArgs false
set_option linter.unusedVariables false
open Go.RowKit
set_option maxRecDepth 20000 in
theorem of_any (a b c d : Int) (w : World) : Calls Try.prog 25 #[.agg #[.int .i64 a, .int .i64 b, .int .i64 c, .int .i64 d]] w fun e w' => e = .returned (.agg #[.int .i64 a, .int .i64 b, .int .i64 c, .int .i64 d]) ∧ Below w.heap.size w w' := by
  go_enter Try.func25, Try.ntmps25
  go_wp2
  exact bodyPost_ret (v := .agg #[.int .i64 a, .int .i64 b, .int .i64 c, .int .i64 d]) (by simp [results, Try.results25, go_sem]) rfl ⟨rfl, by (repeat (first | exact Below.refl _ _ | (refine Below.alloc ?_ (by first | omega | (simp; done) | (simp; omega)) _) | (refine Below.on (by assumption) ?_ (by first | omega | (simp; done) | (simp; omega))) | (refine Below.grown ?_ (by assumption) (by first | omega | (simp; done) | (simp; omega)) (by intro k hk; cases hk)) | refine Below.drew ?_))⟩
theorem small_mid {c : Int} (h : smI c = true) : Mid c ∧ -far < c := by
  unfold smI at h
  simp only [decide_eq_true_eq] at h
  unfold Mid far
  omega
theorem smallF_mid {f : Fo} (h : smallF f = true) : (Mid f.x0 ∧ Mid f.y0 ∧ Mid f.x1 ∧ Mid f.y1) ∧ -far < f.y0 ∧ -far < f.y1 := by
  unfold smallF smallR at h
  simp only [Bool.and_eq_true] at h
  obtain ⟨⟨⟨h0, h1⟩, h2⟩, h3⟩ := h
  exact ⟨⟨(small_mid h0).1, (small_mid h1).1, (small_mid h2).1, (small_mid h3).1⟩, (small_mid h1).2, (small_mid h3).2⟩
theorem small_low {L : List Fo} (h : ∀ f ∈ L, smallF f = true) : Lowish L := fun f hf => (smallF_mid (h f hf)).2
theorem shelves_ok {L : List Fo} (h : ∀ f ∈ L, smallF f = true) : ShOk (shelves L) := (shelves_is L (small_low h)).ok
/-- What begin leaves. -/
def BegPost (L : List Fo) (w : World) (e : Ending) (w' : World) : Prop := ∃ lp, e = .returned (.pointer (some ⟨lp, 0, none⟩)) ∧ ListIs w' w.heap.size lp (full (shelves L)) ∧ Below w.heap.size w w'
def GInv (L : List Fo) (lp : Nat) (w : World) (i : Nat) (wr : World) : Prop := ListIs wr w.heap.size lp (full (shelves (L.take i))) ∧ Below w.heap.size w wr
theorem GInv.step {L : List Fo} {lp : Nat} {w wr w' : World} {i : Nat} (hi : i < L.length) (hl : ListIs w' w.heap.size lp (full (addS (shelves (L.take i)) L[i]))) (h : GInv L lp w i wr) (ht : Below w.heap.size wr w') : GInv L lp w (i + 1) w' := by
  refine ⟨?_, h.2.trans ht⟩
  rw [List.take_succ_eq_append_getElem hi, shelves_snoc]
  exact hl
theorem spF0 (v0 v1 : Value) (w : World) : (Instr.field 33 (.agg #[v0, v1]) 0).run Try.prog w = .ok v0 w := by kernel_rfl
theorem spF1 (v0 v1 : Value) (w : World) : (Instr.field 33 (.agg #[v0, v1]) 1).run Try.prog w = .ok v1 w := by kernel_rfl
/-- The list of floats of the document's example. -/
theorem speaks_list : full (addS [] ⟨1, 0, 2, 3, 5⟩) = [⟨-far, -far, far⟩, ⟨2, 3, far⟩, ⟨5, -far, far⟩] := rfl
theorem speaks_band : fbB (full (addS [] ⟨1, 0, 2, 3, 5⟩)) 0 9 = (3, 4503599627370496) := by decide
end Go.Proofs.Ytnkbbobdhcloeaa
