/- Avoid: Find. -/
import Derived.Test.YtnkbbobdhcloeaaAv1
import Derived.Test.YtnkbbobdhcloeaaAv2
namespace Go.Proofs.Ytnkbbobdhcloeaa
set_option linter.unusedSimpArgs false
set_option linter.unusedVariables false
open Go.RowKit
theorem cf_fits : ∀ (a : Array Value) (w : World), Sem.run Try.prog (callFunc 43 a) w = .ok (.enter 43 a) w := fun a w => by kernel_rfl
/-- The rectangle that a box gets. -/
def FindPost (L : List Fo) (q : Wa) (w : World) (e : Ending) (w' : World) : Prop :=
  e = .returned (.agg #[.int .i64 (leftA L q (topA L q)), .int .i64 (topA L q), .int .i64 (leftA L q (topA L q) + q.wd), .int .i64 (topA L q + q.h)]) ∧ Below w.heap.size w w'
/-- What holds while a seeker looks. -/
def SkInv (L : List Fo) (q : Wa) (base sp kb : Nat) (w : World) (A : List Int) (w' : World) : Prop :=
  SpaceIs w' base sp L ∧ (∃ lf, w'.heap[kb]? = some (.cells (skC q sp lf) 80 (0, 0)) ∧ ∀ y, A.getLast? = some y → lf = leftA L q y) ∧ Below kb w w' ∧ w.heap.size ≤ w'.heap.size
theorem tops_range {L : List Fo} (h : nearB L = true) : ∀ s ∈ full (shelves L), -4503599627370496 ≤ s.t ∧ s.t ≤ 2251799813685248 := fun s hs => by
  rcases List.mem_cons.1 hs with rfl | hs
  · decide
  · obtain ⟨f, hf, e⟩ := tops_in L s hs
    obtain ⟨_, g1, _, g3, _⟩ := nearF_at (nearB_at h f hf)
    rcases e with e | e <;> (rw [e]; omega)
set_option maxRecDepth 20000 in
set_option maxHeartbeats 4000000 in
theorem find_any12 (L : List Fo) (q : Wa) (base sp : Nat) (w : World) (h : SpaceIs w base sp L) (hn : nearB L = true) (hl : L.length ≤ 100000) (hq : okWa q = true) :
    Calls Try.prog 18 #[.pointer (some ⟨sp, 0, none⟩), .agg #[.int .i64 q.a, .int .i64 q.b, .int .i64 q.wd, .int .i64 q.h, .int .i64 q.y]] w (FindPost L q w) := by
  have hok : SpOk L := ⟨near_low hn, hl⟩
  have hsm : ∀ f ∈ L, smallF f = true := fun f hf => near_small (nearB_at hn f hf)
  obtain ⟨⟨ia, ib, iw, ih, iy⟩, i0⟩ := okWa_at hq
  unfold in48 at ia ib iw ih iy
  obtain ⟨b0, hb0⟩ : ∃ b, w.heap.size = b := ⟨_, rfl⟩
  have hft := fun (kb : Nat) (y lf : Int) (w : World) (h : SpaceIs w base sp L) hk hy => fits_any L q y lf base sp kb w h hk hok hsm hq hy
  have hfi := fun (kb : Nat) (w1 : World) (hkw : kb < w1.heap.size) hinv => firstm_any L (soW L q) 43 (.pointer (some ⟨kb, 0, none⟩)) base sp (SkInv L q base sp kb w1) (fun y => -4503599627370496 ≤ y ∧ y ≤ 2251799813685248)
    (fun y w => cf_fits _ w) (fun _ _ h => h.1)
    (fun A w2 w3 h hb => ⟨h.1.below hb (Nat.le_refl _), by
      obtain ⟨lf, h1, h2⟩ := h.2.1
      exact ⟨lf, (hb.block kb (Array.getElem?_eq_some_iff.1 h1).1).trans h1, h2⟩, h.2.2.1.trans (hb.mono (by have := h.2.2.2; omega)), Nat.le_trans h.2.2.2 hb.size⟩)
    (fun A y w2 h hy => by
      obtain ⟨hs, ⟨lf, h1, h2⟩, hb, hz⟩ := h
      refine (hft kb y lf w2 hs h1 hy).mono ?_
      rintro e w3 ⟨rfl, h3, hg⟩
      refine ⟨rfl, hs.off hg h1, ⟨_, h3, fun y' e => by simp at e; rw [e]⟩, hb.trans ⟨hg.os, hg.tape, hg.output, hg.size, fun k hk => hg.block k (by omega) (fun e => by injection e with e; omega)⟩, Nat.le_trans hz hg.size⟩)
    hok q.y ⟨by omega, by omega⟩ (tops_range hn) w1 hinv
  unfold FirstPost at hfi
  have htop : firstL (soW L q) q.y (rest (full (shelves L)) q.y) = topA L q := rfl
  obtain ⟨A, hA⟩ := ask_last (soW L q) (rest (full (shelves L)) q.y) q.y
  rw [htop] at hA hfi
  have hti := topA_in hn hq
  have hlf := leftA_in (topA_first (near_low hn) hq).2.1 i0
  unfold FindPost
  obtain ⟨tp, htp⟩ : ∃ t, topA L q = t := ⟨_, rfl⟩
  rw [htp] at hA hfi hti hlf ⊢
  obtain ⟨lv, hlv⟩ : ∃ t, leftA L q tp = t := ⟨_, rfl⟩
  rw [hlv] at hlf ⊢
  have hlast : ∀ y', (askL (soW L q) q.y (rest (full (shelves L)) q.y)).getLast? = some y' → y' = tp := fun y' e => by
    rw [hA] at e
    simp at e
    exact e.symm
  obtain ⟨ask, hask⟩ : ∃ a, askL (soW L q) q.y (rest (full (shelves L)) q.y) = a := ⟨_, rfl⟩
  have hlas : ∃ y', (askL (soW L q) q.y (rest (full (shelves L)) q.y)).getLast? = some y' := ⟨tp, by rw [hA]; simp⟩
  rw [hask] at hlast hfi hlas
  obtain ⟨W3, hW3⟩ : ∃ W, ((w.alloc (.cells #[.int .i64 q.a, .int .i64 q.b, .int .i64 q.wd, .int .i64 q.h, .int .i64 q.y] 35)).alloc (.cells #[.int .i64 0, .int .i64 0, .int .i64 0, .int .i64 0] 30)).alloc (.cells (skC q sp 0) 80) = W := ⟨_, rfl⟩
  have hs3 : W3.heap.size = b0 + 3 := by rw [← hW3, ← hb0]; simp
  have r0 : W3.heap[b0]? = some (.cells #[.int .i64 q.a, .int .i64 q.b, .int .i64 q.wd, .int .i64 q.h, .int .i64 q.y] 35 (0, 0)) := by rw [← hW3, ← hb0, heap_alloc_old _ _ (by simp; omega), heap_alloc_old _ _ (by simp), heap_alloc_new]
  have r1 : W3.heap[b0 + 1]? = some (.cells #[.int .i64 0, .int .i64 0, .int .i64 0, .int .i64 0] 30 (0, 0)) := by rw [← hW3, ← hb0, heap_alloc_old _ _ (by simp)]; exact heap_alloc2_new w _ _
  have r2 : W3.heap[b0 + 1 + 1]? = some (.cells (skC q sp 0) 80 (0, 0)) := by
    have h := heap_alloc_new ((w.alloc (.cells #[.int .i64 q.a, .int .i64 q.b, .int .i64 q.wd, .int .i64 q.h, .int .i64 q.y] 35)).alloc (.cells #[.int .i64 0, .int .i64 0, .int .i64 0, .int .i64 0] 30)) (.cells (skC q sp 0) 80)
    rw [hW3] at h
    simpa [← hb0] using h
  have hB3 : Below w.heap.size w W3 := by rw [← hW3]; exact (((Below.refl _ _).alloc (Nat.le_refl _) _).alloc (by simp) _).alloc (by simp; omega) _
  have hI3 : SkInv L q base sp (b0 + 1 + 1) W3 [] W3 := ⟨h.below hB3 (Nat.le_refl _), ⟨0, r2, fun y e => by simp at e⟩, Below.refl _ _, Nat.le_refl _⟩
  have HFI := Lib.hid (hfi (b0 + 1 + 1) W3 (by omega) hI3)
  have HL := Lib.hid hlast
  have HLA := Lib.hid hlas
  have HW3 := Lib.hid hW3
  have HB0 := Lib.hid hb0
  have HB3 := Lib.hid hB3
  have HS3 := Lib.hid hs3
  have R0 := Lib.hid r0
  have R1 := Lib.hid r1
  have HLV := Lib.hid hlv
  have c3 : W3.cell? ⟨b0, 4, none⟩ = some (.int .i64 q.y) := cell_of_row W3 b0 4 _ _ (0, 0) r0
  clear hfi hlast hlas hW3 hb0 hB3 hs3 r0 r1 r2 hI3 hA hask htop htp hlv h hn hl hq hok hsm hft
  unfold skC at HW3
  go_enter Try.func18, Try.ntmps18
  go_wp2_with fail
  rw [HW3.out, HB0.out]
  go_wp2_with fail
  refine HFI.out.mono ?_
  rintro e w4 ⟨rfl, hsp4, ⟨lf, hk4, hlf4⟩, hb4, hz4⟩
  have hl4 : lf = lv := by
    obtain ⟨y', hy'⟩ : ∃ y', ask.getLast? = some y' := HLA.out
    have e1 := HL.out y' hy'
    rw [hlf4 y' hy', e1]
    exact HLV.out
  subst hl4
  have hr0 := (hb4.block b0 (by omega)).trans R0.out
  have hr1 := (hb4.block (b0 + 1) (by omega)).trans R1.out
  have k6 : w4.cell? ⟨b0 + 1 + 1, 6, none⟩ = some (.int .i64 lf) := cell_of_row w4 (b0 + 1 + 1) 6 _ _ (0, 0) hk4
  have a2 : w4.cell? ⟨b0, 2, none⟩ = some (.int .i64 q.wd) := cell_of_row w4 b0 2 _ _ (0, 0) hr0
  have a3 : w4.cell? ⟨b0, 3, none⟩ = some (.int .i64 q.h) := cell_of_row w4 b0 3 _ _ (0, 0) hr0
  have HB4 := Lib.hid (show Below w.heap.size w w4 from HB3.out.trans (hb4.mono (by have := HB0.out; omega)))
  have HR1 := Lib.hid hr1
  have hz5 : b0 + 3 ≤ w4.heap.size := by have := HS3.out; omega
  clear hsp4 hk4 hlf4 hb4 hz4 hr0 hr1 c3 HFI
  go_wp2_with fail
  have hw1 : IntKind.i64.wrap (lf + q.wd) = lf + q.wd := by rw [IntKind.wrap_i64]; omega
  have hw2 : IntKind.i64.wrap (tp + q.h) = tp + q.h := by rw [IntKind.wrap_i64]; omega
  go_still_tail 18, (by kernel_rfl)
  clear hw1 hw2 k6 a2 a3
  go_wp2_with fail
  refine (rof_any _ _ _ _ _).mono ?_
  rintro e w5 ⟨rfl, hb5⟩
  have r5 : w5.heap[b0 + 1]? = _ := (hb5.block (b0 + 1) (by show b0 + 1 < w4.heap.size; omega)).trans (show w4.drew.heap[b0 + 1]? = _ from HR1.out)
  have R5 := Lib.hid r5
  have HB5 := Lib.hid (HB4.out.trans ((Below.drewL hb5).mono HB4.out.size))
  have hz6 : b0 + 3 ≤ w5.heap.size := by have h1 : w4.heap.size ≤ w5.heap.size := hb5.size; omega
  clear hb5 r5
  go_wp2_with (first
    | ((with_reducible refine store_row (dst := none) 30 (.tmp 4) (.tmp 35) (b0 + 1) _ #[.int .i64 lf, .int .i64 tp, .int .i64 (lf + q.wd), .int .i64 (tp + q.h)] 30 R5.out ?_ ?_ ?_ ?_ ?_ ?_); rfl; rfl; exact rectInfo; rfl; (simp [Value.oneCell']); intro w6 hw6 hg6 hz7; have HW6 := Lib.hid hw6; have HG6 := Lib.hid hg6; clear hw6 hg6))
  have d0 := cell_of_row w6 (b0 + 1) 0 _ _ (0, 0) HW6.out
  have d1 := cell_of_row w6 (b0 + 1) 1 _ _ (0, 0) HW6.out
  have d2 := cell_of_row w6 (b0 + 1) 2 _ _ (0, 0) HW6.out
  have d3 := cell_of_row w6 (b0 + 1) 3 _ _ (0, 0) HW6.out
  refine bodyPost_ret (v := .agg #[.int .i64 lf, .int .i64 tp, .int .i64 (lf + q.wd), .int .i64 (tp + q.h)]) (by simp [results, Try.results18, go_sem, d0, d1, d2, d3]) rfl ⟨rfl, HB5.out.grown HG6.out (by have := HB0.out; omega) (fun k hk => by have := HB0.out; simp at hk; omega)⟩
end Go.Proofs.Ytnkbbobdhcloeaa
