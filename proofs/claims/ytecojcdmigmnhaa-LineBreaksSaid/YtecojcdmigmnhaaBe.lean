/- The law's own functions: Of, Few, begin, speaks. -/
import Derived.Test.YtecojcdmigmnhaaFx
namespace Go.Proofs.Ytecojcdmigmnhaa
set_option linter.unusedSimpArgs false
set_option linter.unusedVariables false
open Go.RowKit
set_option maxRecDepth 20000 in
theorem of_any (a b c d : Int) (w : World) : Calls Try.prog 26 #[.agg #[.int .i64 a, .int .i64 b, .int .i64 c, .int .i64 d]] w fun e w' => e = .returned (.agg #[.int .i64 a, .int .i64 b, .int .i64 c, .int .i64 d]) ∧ Below w.heap.size w w' := by
  go_enter Try.func26, Try.ntmps26
  go_wp2
  exact bodyPost_ret (v := .agg #[.int .i64 a, .int .i64 b, .int .i64 c, .int .i64 d]) (by simp [results, Try.results26, go_sem]) rfl ⟨rfl, by (repeat (first | exact Below.refl _ _ | (refine Below.alloc ?_ (by first | omega | (simp; done) | (simp; omega)) _) | (refine Below.on (by assumption) ?_ (by first | omega | (simp; done) | (simp; omega))) | (refine Below.grown ?_ (by assumption) (by first | omega | (simp; done) | (simp; omega)) (by intro k hk; cases hk)) | refine Below.drew ?_))⟩
set_option maxRecDepth 20000 in
set_option maxHeartbeats 4000000 in
theorem few_any (v : Value) (L : List Fo) (m : Int) (w : World) (h : IsFos w v L) (hL : L.length ≤ maxLen) : Calls Try.prog 16 #[v, .int .i64 m] w fun e w' => e = .returned (.bool (fewB L m)) ∧ Below w.heap.size w w' := by
  have HH := Lib.hid h
  obtain ⟨A, cap, rfl, hc, hA⟩ := h
  have HA := Lib.hid hA
  obtain ⟨res, hres⟩ : ∃ r, fewB L m = r := ⟨_, rfl⟩
  rw [hres]
  have HR := Lib.hid hres
  have HL := Lib.hid hL
  unfold maxLen at hL
  clear hres hA hc
  go_enter Try.func16, Try.ntmps16
  go_wp2_with fail
  go_loopw [9] (fun x wr => ∃ i : Nat, i ≤ L.length ∧ x = .int .i64 i ∧ Hid ((∀ j, j < i → smallF (foAt L j) = true) ∧ Below w.heap.size w wr)) (fun x _ => L.length - (intOf x).toNat)
  case atStart => exact ⟨0, by omega, rfl, Lib.hid ⟨fun j hj => by omega, Below.refl _ _⟩⟩
  case round =>
    obtain ⟨i, hi, rfl, hI⟩ := hrel
    by_cases hlt : i < L.length
    · obtain ⟨g, o, rfl, hg, hs⟩ := HA.out (by omega)
      have hbs := hI.out.2.size
      have hcs : wr.rangeAt g (o + i * 5) (foC (foAt L i)) := fun j v hv => (hI.out.2.cell (p := ⟨g, o + i * 5 + j, none⟩) hg).trans (hs i hlt j v hv)
      obtain ⟨u0, u1, u2, u3, u4⟩ := fo_cells hcs
      have hsm : Hid (smallF (foAt L i) = smallR (foAt L i).x0 (foAt L i).y0 (foAt L i).x1 (foAt L i).y1) := Lib.hid rfl
      have hgl : g < wr.heap.size := by omega
      have HBS := Lib.hid hbs
      clear hs hcs hbs
      generalize (foAt L i).s = fs at *
      generalize (foAt L i).x0 = f0 at *
      generalize (foAt L i).y0 = f1 at *
      generalize (foAt L i).x1 = f2 at *
      generalize (foAt L i).y1 = f3 at *
      go_wp2_with (first
        | ((with_reducible refine store_new (dst := none) 49 (.tmp 6) (.tmp 12) wr _ #[.int .i64 fs, .int .i64 f0, .int .i64 f1, .int .i64 f2, .int .i64 f3] 49 rfl ?_ ?_ ?_ ?_ ?_ ?_); rfl; rfl; exact floatInfo; rfl; (simp [Value.oneCell'])))
      refine (small_any f0 f1 f2 f3 _).mono ?_
      rintro e w5 ⟨rfl, hb5⟩
      have hB5 := Lib.hid (Below.onto hb5 ((Below.refl wr.heap.size wr).alloc (Nat.le_refl _) (.cells #[.int .i64 fs, .int .i64 f0, .int .i64 f1, .int .i64 f2, .int .i64 f3] 49)))
      clear hb5
      cases hq : smallR f0 f1 f2 f3 with
      | false =>
        have hr : fewB L m = false := by
          unfold fewB
          rw [Bool.and_eq_false_iff]
          left
          rw [List.all_eq_false]
          refine ⟨L[i], List.getElem_mem hlt, ?_⟩
          rw [← foAt_eq L i hlt, hsm.out, hq]
          simp
        rw [HR.out] at hr
        subst hr
        go_wp2_with fail
        go_ret
        exact ⟨rfl, hI.out.2.trans (hB5.out.mono HBS.out)⟩
      | true =>
        have hI' := Lib.hid (show (∀ j, j < i + 1 → smallF (foAt L j) = true) ∧ Below w.heap.size w w5 from ⟨fun j hj => by
          by_cases e : j = i
          · subst e; rw [hsm.out, hq]
          · exact hI.out.1 j (by omega), hI.out.2.trans (hB5.out.mono HBS.out)⟩)
        clear hq
        go_wp2_with fail
        go_roundw
        case rel => exact ⟨i + 1, by omega, by go_num, hI'⟩
        case measure => simp [intOf]; omega
    · have hir : i = L.length := by omega
      have hr : fewB L m = decide ((L.length : Int) ≤ m) := by
        unfold fewB
        rw [Bool.and_eq_right_iff_imp]
        intro _
        rw [List.all_eq_true]
        intro f hf
        obtain ⟨j, hj, rfl⟩ := List.mem_iff_getElem.1 hf
        rw [← foAt_eq L j hj]
        exact hI.out.1 j (by omega)
      rw [HR.out] at hr
      have hB := Lib.hid hI.out.2
      subst hir
      subst hr
      clear hlt hi hI HR
      go_wp2_with fail
      go_ret
      exact ⟨rfl, hB.out⟩
theorem small_mid {c : Int} (h : smI c = true) : Mid c ∧ -far < c := by
  unfold smI at h
  simp only [decide_eq_true_eq] at h
  unfold Mid far
  omega
theorem smallF_mid {f : Fo} (h : smallF f = true) : (Mid f.x0 ∧ Mid f.y0 ∧ Mid f.x1 ∧ Mid f.y1) ∧ -far < f.y0 ∧ -far < f.y1 := by
  unfold smallF smallR at h
  simp only [Bool.and_eq_true] at h
  obtain ⟨⟨⟨h0, h1⟩, h2⟩, h3⟩ := h
  exact ⟨⟨(small_mid h0).1, (small_mid h1).1, (small_mid h2).1, (small_mid h3).1⟩, (small_mid h1).2, (small_mid h3).2⟩
theorem small_low {L : List Fo} (h : ∀ f ∈ L, smallF f = true) : Lowish L := fun f hf => (smallF_mid (h f hf)).2
theorem shelves_ok {L : List Fo} (h : ∀ f ∈ L, smallF f = true) : ShOk (shelves L) := (shelves_is L (small_low h)).ok
/-- What begin leaves. -/
def BegPost (L : List Fo) (w : World) (e : Ending) (w' : World) : Prop := ∃ lp, e = .returned (.pointer (some ⟨lp, 0, none⟩)) ∧ ListIs w' w.heap.size lp (full (shelves L)) ∧ Below w.heap.size w w'
def GInv (L : List Fo) (lp : Nat) (w : World) (i : Nat) (wr : World) : Prop := ListIs wr w.heap.size lp (full (shelves (L.take i))) ∧ Below w.heap.size w wr
theorem GInv.step {L : List Fo} {lp : Nat} {w wr w' : World} {i : Nat} (hi : i < L.length) (hl : ListIs w' w.heap.size lp (full (addS (shelves (L.take i)) L[i]))) (h : GInv L lp w i wr) (ht : Below w.heap.size wr w') : GInv L lp w (i + 1) w' := by
  refine ⟨?_, h.2.trans ht⟩
  rw [List.take_succ_eq_append_getElem hi, shelves_snoc]
  exact hl
theorem spF0 (v0 v1 : Value) (w : World) : (Instr.field 61 (.agg #[v0, v1]) 0).run Try.prog w = .ok v0 w := by kernel_rfl
theorem spF1 (v0 v1 : Value) (w : World) : (Instr.field 61 (.agg #[v0, v1]) 1).run Try.prog w = .ok v1 w := by kernel_rfl
/-- The list of floats of the document's example. -/
theorem speaks_list : full (addS [] ⟨1, 0, 2, 3, 5⟩) = [⟨-far, -far, far⟩, ⟨2, 3, far⟩, ⟨5, -far, far⟩] := rfl
theorem speaks_band : fbB (full (addS [] ⟨1, 0, 2, 3, 5⟩)) 0 9 = (3, 4503599627370496) := by decide
end Go.Proofs.Ytecojcdmigmnhaa
