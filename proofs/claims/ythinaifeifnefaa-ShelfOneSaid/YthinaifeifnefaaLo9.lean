/- The law ShelfOne. -/
import Derived.Test.YthinaifeifnefaaBe
namespace Go.Proofs.Ythinaifeifnefaa
set_option linter.unusedSimpArgs false
set_option linter.unusedVariables false
open Go.RowKit
theorem smI_lt {c : Int} (h : smI c = true) : -far < c ∧ c < far := by
  unfold smI at h
  simp only [decide_eq_true_eq] at h
  unfold far
  omega
/-- What ShelfOne asks of a float. -/
theorem one_cases (f : Fo) : (cnts f = false ∧ decide (f.x0 < f.x1) = false) ∨ (cnts f = false ∧ decide (f.x0 < f.x1) = true ∧ decide (f.y0 < f.y1) = false) ∨ (cnts f = false ∧ decide (f.x0 < f.x1) = true ∧ decide (f.y0 < f.y1) = true ∧ (f.s == 1) = false ∧ (f.s == 2) = false) ∨
    (cnts f = true ∧ decide (f.x0 < f.x1) = true ∧ decide (f.y0 < f.y1) = true ∧ (f.s == 1) = true) ∨ (cnts f = true ∧ decide (f.x0 < f.x1) = true ∧ decide (f.y0 < f.y1) = true ∧ (f.s == 1) = false ∧ (f.s == 2) = true) := by
  unfold cnts
  by_cases h1 : f.x0 < f.x1
  · by_cases h2 : f.y0 < f.y1
    · by_cases h3 : f.s = 1
      · right; right; right; left
        exact ⟨decide_eq_true ⟨h1, h2, .inl h3⟩, decide_eq_true h1, decide_eq_true h2, by simp [h3]⟩
      · by_cases h4 : f.s = 2
        · right; right; right; right
          exact ⟨decide_eq_true ⟨h1, h2, .inr h4⟩, decide_eq_true h1, decide_eq_true h2, by simp [h3], by simp [h4]⟩
        · right; right; left
          exact ⟨decide_eq_false (by omega), decide_eq_true h1, decide_eq_true h2, by simp [h3], by simp [h4]⟩
    · right; left
      exact ⟨decide_eq_false (by omega), decide_eq_true h1, decide_eq_false h2⟩
  · left
    exact ⟨decide_eq_false (by omega), decide_eq_false h1⟩
theorem flo_cells {w : World} {b : Nat} {a0 a1 a2 a3 a4 : Int} {t : TypeId} (h : w.heap[b]? = some (.cells #[.int .i64 a0, .int .i64 a1, .int .i64 a2, .int .i64 a3, .int .i64 a4] t (0, 0))) :
    w.cell? ⟨b, 0, none⟩ = some (.int .i64 a0) ∧ w.cell? ⟨b, 1, none⟩ = some (.int .i64 a1) ∧ w.cell? ⟨b, 2, none⟩ = some (.int .i64 a2) ∧ w.cell? ⟨b, 3, none⟩ = some (.int .i64 a3) ∧ w.cell? ⟨b, 4, none⟩ = some (.int .i64 a4) :=
  ⟨cell_of_row w b 0 _ _ (0, 0) h, cell_of_row w b 1 _ _ (0, 0) h, cell_of_row w b 2 _ _ (0, 0) h, cell_of_row w b 3 _ _ (0, 0) h, cell_of_row w b 4 _ _ (0, 0) h⟩
theorem one_fos {w : World} {g : Nat} {f : Fo} (h : w.heap[g]? = some (.cells #[.int .i64 f.s, .int .i64 f.x0, .int .i64 f.y0, .int .i64 f.x1, .int .i64 f.y1] 45 (0, 0))) : IsFos w (.slice (some ⟨g, 0, none⟩) 1 1) [f] := by
  refine ⟨_, 1, rfl, by simp, fun _ => ⟨g, 0, rfl, (Array.getElem?_eq_some_iff.1 h).1, fun k hk j v hv => ?_⟩⟩
  have hk0 : k = 0 := by simpa using hk
  subst hk0
  rw [cell_of_row w g _ _ _ (0, 0) h]
  have : (#[Value.int .i64 f.s, .int .i64 f.x0, .int .i64 f.y0, .int .i64 f.x1, .int .i64 f.y1] : Array Value)[0 + 0 * 5 + j]? = (foC f)[j]? := by simp [foC]
  rw [this]
  exact hv
set_option maxRecDepth 20000 in
set_option maxHeartbeats 4000000 in
theorem shelfOne_any (f : Fo) (w : World) : Calls Try.prog 6 #[.agg #[.int .i64 f.s, .int .i64 f.x0, .int .i64 f.y0, .int .i64 f.x1, .int .i64 f.y1]] w fun e w' => e = .returned (.bool true) ∧ Below w.heap.size w w' := by
  cases hs : smallF f with
  | false =>
    have hsm := fun w => small_any f.x0 f.y0 f.x1 f.y1 w
    unfold smallF at hs
    rw [hs] at hsm
    have HSM := Lib.hid hsm
    clear hsm hs
    go_enter Try.func6, Try.ntmps6
    go_wp2_with fail
    refine (speaks_any _).mono ?_
    rintro e w1 ⟨rfl, hb1⟩
    have hr1 := (hb1.block w.heap.size (by simp; done)).trans (heap_alloc_new w _)
    have hz1 := hb1.size
    simp [Nat.add_one_le_iff] at hz1
    have HR1 := Lib.hid hr1
    obtain ⟨c0, c1, c2, c3, c4⟩ := flo_cells hr1
    have HB1 := Lib.hid (Below.onto hb1 ((Below.refl _ _).alloc (Nat.le_refl _) _))
    clear hb1 hr1
    go_wp2_with fail
    refine (HSM.out _).mono ?_
    rintro e w2 ⟨rfl, hb2⟩
    have HB2 := Lib.hid (Below.onto hb2 HB1.out)
    clear hb2 c0 c1 c2 c3 c4
    go_wp2_with fail
    refine (speaks_any _).mono ?_
    rintro e w3 ⟨rfl, hb3⟩
    have HB3 := Lib.hid (Below.onto hb3 HB2.out)
    clear hb3
    go_wp2_with fail
    go_ret
    exact ⟨rfl, HB3.out⟩
  | true =>
    have hsm := fun w => small_any f.x0 f.y0 f.x1 f.y1 w
    have hs' := hs
    unfold smallF at hs'
    rw [hs'] at hsm
    have HSM := Lib.hid hsm
    have hss : ∀ g ∈ [f], smallF g = true := fun g hg => by rw [List.mem_singleton.1 hg]; exact hs
    have hbg := fun v w h => begin_any v [f] w h (by simp) hss
    have hlen := shelves_length [f]
    have hsh := fun base lp w h => shelves_any (full (shelves [f])) base lp w h (by simp only [full, List.length_cons] at *; simp at hlen; omega) (by simp [full])
    unfold BegPost at hbg
    unfold ShelvesPost at hsh
    obtain ⟨F, hF⟩ : ∃ F, full (shelves [f]) = F := ⟨_, rfl⟩
    rw [hF] at hbg hsh
    have hFl : F.length = (shelves [f]).length + 1 := by rw [← hF]; rfl
    have h0 : 0 < F.length := by omega
    have HBG := Lib.hid hbg
    have HSH := Lib.hid hsh
    have HF := Lib.hid hF
    have hX0 : f.x0 < far := by
      have h := hs'
      unfold smallR at h
      simp only [Bool.and_eq_true] at h
      exact (smI_lt h.1.1.1).2
    have hX1 : -far < f.x1 := by
      have h := hs'
      unfold smallR at h
      simp only [Bool.and_eq_true] at h
      exact (smI_lt h.1.2).1
    have HX := Lib.hid (And.intro hX0 hX1)
    clear hsm hs hs' hss hbg hlen hsh hF hFl hX0 hX1
    go_enter Try.func6, Try.ntmps6
    go_wp2_with fail
    refine (speaks_any _).mono ?_
    rintro e w1 ⟨rfl, hb1⟩
    have hr1 := (hb1.block w.heap.size (by simp; done)).trans (heap_alloc_new w _)
    have hz1 := hb1.size
    simp [Nat.add_one_le_iff] at hz1
    have HR1 := Lib.hid hr1
    obtain ⟨c0, c1, c2, c3, c4⟩ := flo_cells hr1
    have HB1 := Lib.hid (Below.onto hb1 ((Below.refl _ _).alloc (Nat.le_refl _) _))
    clear hb1 hr1
    go_wp2_with fail
    refine (HSM.out _).mono ?_
    rintro e w2 ⟨rfl, hb2⟩
    have hz2 := hb2.size
    have hr2 := (hb2.block w.heap.size (by omega)).trans HR1.out
    have HR2 := Lib.hid hr2
    have HB2 := Lib.hid (Below.onto hb2 HB1.out)
    clear hb2 c0 c1 c2 c3 c4
    obtain ⟨c0, c1, c2, c3, c4⟩ := flo_cells hr2
    clear hr2
    go_wp2_with fail
    refine (HBG.out _ _ (one_fos (heap_alloc_new w2 _))).mono ?_
    rintro e w3 ⟨lp, rfl, hl3, hb3⟩
    have hz3 := hb3.size
    simp [Nat.add_one_le_iff] at hz3
    have hr3 := (hb3.block w.heap.size (by simp; omega)).trans ((heap_alloc_old w2 _ (by omega)).trans HR2.out)
    have HR3 := Lib.hid hr3
    have HL3 := Lib.hid hl3
    have HB3 := Lib.hid (HB2.out.trans ((Below.onto hb3 ((Below.refl _ _).alloc (Nat.le_refl _) _)).mono HB2.out.size))
    clear hb3 hl3 hr3 c0 c1 c2 c3 c4
    go_wp2_with fail
    refine (HSH.out _ lp w3 HL3.out).mono ?_
    rintro e w4 ⟨v4, rfl, ho4, hb4⟩
    obtain ⟨g, cap, rfl, hcp, hg, hgl⟩ := own_form ho4 h0 rfl
    have hr4 := (hb4.block w.heap.size (by omega)).trans HR3.out
    have HSC := Lib.hid (shs_of_own ho4)
    have HB4 := Lib.hid (Below.onto hb4 HB3.out)
    clear hb4 ho4
    obtain ⟨c0, c1, c2, c3, c4⟩ := flo_cells hr4
    clear hr4
    have hcs := one_cases f
    have hNo : Hid (cnts f = false → F.length = 1) := Lib.hid (fun h => by rw [← HF.out, none_shelf f h]; rfl)
    have hYes : Hid (cnts f = true → F = full [if f.s = 1 then ⟨f.y0, f.x1, far⟩ else ⟨f.y0, -far, f.x0⟩, ⟨f.y1, -far, far⟩]) := Lib.hid (fun h => by rw [← HF.out, one_shelf f h HX.out.1 HX.out.2])
    rcases hcs with ⟨k, d1⟩ | ⟨k, d1, d2⟩ | ⟨k, d1, d2, d3, d4⟩ | ⟨k, d1, d2, d3⟩ | ⟨k, d1, d2, d3, d4⟩
    · have hl := hNo.out k
      rw [hl]
      clear hNo hYes k hl
      go_wp2_with fail
      go_ret
      exact ⟨rfl, HB4.out⟩
    · have hl := hNo.out k
      rw [hl]
      clear hNo hYes k hl
      go_wp2_with fail
      go_ret
      exact ⟨rfl, HB4.out⟩
    · have hl := hNo.out k
      rw [hl]
      clear hNo hYes k hl
      go_wp2_with fail
      go_ret
      exact ⟨rfl, HB4.out⟩
    · have hl := hYes.out k
      rw [if_pos (by simpa using d3)] at hl
      have hl3 : F.length = 3 := by rw [hl]; rfl
      obtain ⟨s1, s2, s3⟩ := HSC.out.cells (k := 1) (by omega)
      obtain ⟨t1, t2, t3⟩ := HSC.out.cells (k := 2) (by omega)
      have e1 : shAt F 1 = ⟨f.y0, f.x1, far⟩ := by rw [hl]; rfl
      have e2 : shAt F 2 = ⟨f.y1, -far, far⟩ := by rw [hl]; rfl
      rw [e1] at s1 s2 s3
      rw [e2] at t1 t2 t3
      simp only [Nat.zero_add, Nat.one_mul, Nat.reduceMul, Nat.reduceAdd, far] at s1 s2 s3 t1 t2 t3
      rw [hl3]
      rw [hl3] at hcp
      clear hNo hYes k hl hl3 e1 e2 HSC
      go_wp2_with fail
      go_quiet (fail)
      go_wp2_with fail
      go_quiet (fail)
      go_wp2_with fail
      go_ret
      exact ⟨rfl, HB4.out.trans ⟨rfl, rfl, rfl, Nat.le_refl _, fun _ _ => rfl⟩⟩
    · have hl := hYes.out k
      rw [if_neg (by simpa using d3)] at hl
      have hl3 : F.length = 3 := by rw [hl]; rfl
      obtain ⟨s1, s2, s3⟩ := HSC.out.cells (k := 1) (by omega)
      obtain ⟨t1, t2, t3⟩ := HSC.out.cells (k := 2) (by omega)
      have e1 : shAt F 1 = ⟨f.y0, -far, f.x0⟩ := by rw [hl]; rfl
      have e2 : shAt F 2 = ⟨f.y1, -far, far⟩ := by rw [hl]; rfl
      rw [e1] at s1 s2 s3
      rw [e2] at t1 t2 t3
      simp only [Nat.zero_add, Nat.one_mul, Nat.reduceMul, Nat.reduceAdd, far] at s1 s2 s3 t1 t2 t3
      rw [hl3]
      rw [hl3] at hcp
      clear hNo hYes k hl hl3 e1 e2 HSC
      go_wp2_with fail
      go_quiet (fail)
      go_wp2_with fail
      go_quiet (fail)
      go_wp2_with fail
      go_ret
      exact ⟨rfl, HB4.out.trans ⟨rfl, rfl, rfl, Nat.le_refl _, fun _ _ => rfl⟩⟩
end Go.Proofs.Ythinaifeifnefaa
