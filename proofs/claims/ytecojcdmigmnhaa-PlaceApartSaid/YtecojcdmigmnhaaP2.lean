/- Place: Start, sticks, At. (Printed by wip/gen_place.py.) -/
import Derived.Test.YtecojcdmigmnhaaP1
import Derived.Test.YtecojcdmigmnhaaSfm
import Derived.Test.YtecojcdmigmnhaaRe
namespace Go.Proofs.Ytecojcdmigmnhaa
set_option linter.unusedSimpArgs false
set_option linter.unusedVariables false
open Go.RowKit
theorem boxP {w : World} {b : Nat} {x0 x1 x2 x3 x4 x5 x6 : Value} {T : TypeId} (h : w.heap[b]? = some (.cells #[x0, x1, x2, x3, x4, x5, x6] T (0, 0))) :
    w.cell? ⟨b, 0, none⟩ = some x0 ∧ w.cell? ⟨b, 1, none⟩ = some x1 ∧ w.cell? ⟨b, 2, none⟩ = some x2 ∧ w.cell? ⟨b, 3, none⟩ = some x3 ∧ w.cell? ⟨b, 4, none⟩ = some x4 ∧ w.cell? ⟨b, 5, none⟩ = some x5 ∧ w.cell? ⟨b, 6, none⟩ = some x6 :=
  ⟨cell_of_row w b 0 _ _ (0, 0) h, cell_of_row w b 1 _ _ (0, 0) h, cell_of_row w b 2 _ _ (0, 0) h, cell_of_row w b 3 _ _ (0, 0) h, cell_of_row w b 4 _ _ (0, 0) h, cell_of_row w b 5 _ _ (0, 0) h, cell_of_row w b 6 _ _ (0, 0) h⟩
theorem box2 {w : World} {b : Nat} {x0 x1 : Value} {T : TypeId} (h : w.heap[b]? = some (.cells #[x0, x1] T (0, 0))) :
    w.cell? ⟨b, 0, none⟩ = some x0 ∧ w.cell? ⟨b, 1, none⟩ = some x1 :=
  ⟨cell_of_row w b 0 _ _ (0, 0) h, cell_of_row w b 1 _ _ (0, 0) h⟩
theorem keepB {w w' : World} {b : Nat} {o : Obj} (h : w.heap[b]? = some o) (hb : Below w.heap.size w w') : w'.heap[b]? = some o := (hb.block b (Array.getElem?_eq_some_iff.1 h).1).trans h
theorem spanInfoP : (Try.prog.info? 61).map (·.size) = some 2 := by kernel_rfl
set_option maxRecDepth 20000 in
set_option maxHeartbeats 2000000 in
theorem start_any (L : List Fo) (q : Wp) (base sp : Nat) (w : World) (h : SpaceIs w base sp L) (hs : ∀ f ∈ L, f.s = 1 ∨ f.s = 2) : Calls Try.prog 99 #[.pointer (some ⟨sp, 0, none⟩), .agg #[.int .i64 q.s, .int .i64 q.c, .int .i64 q.a, .int .i64 q.b, .int .i64 q.wd, .int .i64 q.h, .int .i64 q.y]] w (IntPost (startP L q) w) := by
  have hcl := fun w h => clear_any L q.c q.y base sp w h hs
  have hla := fun w h => last_any L base sp w h
  unfold IntPost at hcl ⊢
  unfold EdgePost at hla
  unfold startP
  obtain ⟨⟨t, ok⟩, he⟩ : ∃ e, lastS L = e := ⟨_, rfl⟩
  obtain ⟨cy, hcy⟩ : ∃ e, clrS q.c L q.y = e := ⟨_, rfl⟩
  rw [he] at hla ⊢
  rw [hcy] at hcl ⊢
  obtain ⟨W0, hW0⟩ : ∃ W, w.alloc (.cells #[.int .i64 q.s, .int .i64 q.c, .int .i64 q.a, .int .i64 q.b, .int .i64 q.wd, .int .i64 q.h, .int .i64 q.y] 90) = W := ⟨_, rfl⟩
  obtain ⟨b0, hb0⟩ : ∃ b, w.heap.size = b := ⟨_, rfl⟩
  have r0 : W0.heap[b0]? = some (.cells #[.int .i64 q.s, .int .i64 q.c, .int .i64 q.a, .int .i64 q.b, .int .i64 q.wd, .int .i64 q.h, .int .i64 q.y] 90 (0, 0)) := by rw [← hW0, ← hb0]; exact heap_alloc_new w _
  have hB0 : Below w.heap.size w W0 := by rw [← hW0]; exact (Below.refl _ _).alloc (Nat.le_refl _) _
  have HS0 := Lib.hid (h.below hB0 (Nat.le_refl _))
  have HCL := Lib.hid hcl
  have HLA := Lib.hid hla
  have HB0 := Lib.hid hB0
  have HW0 := Lib.hid hW0
  have HBB := Lib.hid hb0
  obtain ⟨x0, x1, x2, x3, x4, x5, x6⟩ := boxP r0
  clear hcl hla hB0 hW0 hb0 h he hcy r0
  obtain ⟨qs, qc, qa, qb, qw, qh, qy⟩ := q
  simp only at *
  cases ok with
  | false =>
    rw [if_neg (by simp)]
    go_enter Try.func99, Try.ntmps99
    go_wp2_with fail
    rw [HW0.out, HBB.out]
    go_wp2_with fail
    refine (HCL.out W0 HS0.out).mono ?_
    rintro e w1 ⟨rfl, hb1⟩
    have HS1 := Lib.hid (HS0.out.below hb1 (Nat.le_refl _))
    have HB1 := Lib.hid (Below.onto hb1 HB0.out)
    clear hb1 x0 x1 x2 x3 x4 x5 x6
    go_wp2_with fail
    refine (HLA.out w1 HS1.out).mono ?_
    rintro e w2 ⟨rfl, hb2⟩
    have HB2 := Lib.hid (Below.onto hb2 HB1.out)
    clear hb2
    go_wp2_with fail
    go_ret
    exact ⟨rfl, HB2.out⟩
  | true =>
    rw [if_pos rfl]
    obtain ⟨m, hm⟩ : ∃ m, max cy t = m := ⟨_, rfl⟩
    rw [hm]
    have HM := Lib.hid hm
    clear hm
    go_enter Try.func99, Try.ntmps99
    go_wp2_with fail
    rw [HW0.out, HBB.out]
    go_wp2_with fail
    refine (HCL.out W0 HS0.out).mono ?_
    rintro e w1 ⟨rfl, hb1⟩
    have HS1 := Lib.hid (HS0.out.below hb1 (Nat.le_refl _))
    have HB1 := Lib.hid (Below.onto hb1 HB0.out)
    clear hb1 x0 x1 x2 x3 x4 x5 x6
    go_wp2_with fail
    refine (HLA.out w1 HS1.out).mono ?_
    rintro e w2 ⟨rfl, hb2⟩
    have HB2 := Lib.hid (Below.onto hb2 HB1.out)
    clear hb2
    go_wp2_with fail
    all_goals
      go_ret
      refine ⟨?_, HB2.out⟩
      rw [← HM.out]
      first
        | (rw [Int.max_eq_left (by omega)]; rfl)
        | (rw [Int.max_eq_right (by omega)]; rfl)
/-- The ways through sticks. -/
theorem stk_cases (wd a b l r m1 m2 : Int) (s : Bool) (hs : s = decide (b - a < wd ∧ l ≤ m1 ∧ m2 ≤ r)) :
    (decide (b - a < wd) = false ∧ s = false) ∨ (decide (b - a < wd) = true ∧ decide (l ≤ m1) = false ∧ s = false) ∨ (decide (b - a < wd) = true ∧ decide (l ≤ m1) = true ∧ decide (m2 ≤ r) = false ∧ s = false) ∨ (decide (b - a < wd) = true ∧ decide (l ≤ m1) = true ∧ decide (m2 ≤ r) = true ∧ s = true) := by
  by_cases h1 : b - a < wd
  · right
    by_cases h2 : l ≤ m1
    · right
      by_cases h3 : m2 ≤ r
      · right; exact ⟨decide_eq_true h1, decide_eq_true h2, decide_eq_true h3, by rw [hs]; exact decide_eq_true ⟨h1, h2, h3⟩⟩
      · left; exact ⟨decide_eq_true h1, decide_eq_true h2, decide_eq_false h3, by rw [hs]; exact decide_eq_false fun h => h3 h.2.2⟩
    · left; exact ⟨decide_eq_true h1, decide_eq_false h2, by rw [hs]; exact decide_eq_false fun h => h2 h.2.1⟩
  · left; exact ⟨decide_eq_false h1, by rw [hs]; exact decide_eq_false fun h => h1 h.1⟩
set_option maxRecDepth 20000 in
set_option maxHeartbeats 4000000 in
theorem sticks_any (q : Wp) (l r : Int) (w : World) (hq : okWp q = true) :
    Calls Try.prog 118 #[.agg #[.int .i64 q.s, .int .i64 q.c, .int .i64 q.a, .int .i64 q.b, .int .i64 q.wd, .int .i64 q.h, .int .i64 q.y], .agg #[.int .i64 l, .int .i64 r]] w fun e w' => e = .returned (.bool (decide (q.b - q.a < q.wd ∧ l ≤ (atS q.s q.wd q.a q.b).1 ∧ (atS q.s q.wd q.a q.b).2 ≤ r))) ∧ Below w.heap.size w w' := by
  obtain ⟨⟨ia, ib, iw, ih, iy⟩, i0⟩ := okWp_at hq
  have ja := ia
  have jb := ib
  unfold in48 at ia ib
  have hpa := fun w => pat_any q q.a q.b w (by omega) (by omega) iw
  have hsl := fun w => slen_any q.a q.b w (by unfold Mid; omega) (by unfold Mid; omega)
  unfold SpanPost at hpa
  generalize atS q.s q.wd q.a q.b = m at *
  obtain ⟨m1, m2⟩ := m
  simp only at hpa ⊢
  obtain ⟨sv, hsv⟩ : ∃ s, decide (q.b - q.a < q.wd ∧ l ≤ m1 ∧ m2 ≤ r) = s := ⟨_, rfl⟩
  rw [hsv]
  have HCS := Lib.hid (stk_cases q.wd q.a q.b l r m1 m2 sv hsv.symm)
  obtain ⟨W2, hW2⟩ : ∃ W, (w.alloc (.cells #[.int .i64 q.s, .int .i64 q.c, .int .i64 q.a, .int .i64 q.b, .int .i64 q.wd, .int .i64 q.h, .int .i64 q.y] 90)).alloc (.cells #[.int .i64 l, .int .i64 r] 61) = W := ⟨_, rfl⟩
  obtain ⟨b0, hb0⟩ : ∃ b, w.heap.size = b := ⟨_, rfl⟩
  have r0 : W2.heap[b0]? = some (.cells #[.int .i64 q.s, .int .i64 q.c, .int .i64 q.a, .int .i64 q.b, .int .i64 q.wd, .int .i64 q.h, .int .i64 q.y] 90 (0, 0)) := by rw [← hW2, ← hb0, heap_alloc_old _ _ (by simp)]; exact heap_alloc_new w _
  have r1 : W2.heap[b0 + 1]? = some (.cells #[.int .i64 l, .int .i64 r] 61 (0, 0)) := by rw [← hW2, ← hb0]; exact heap_alloc2_new w _ _
  have hB2 : Below w.heap.size w W2 := by rw [← hW2]; exact ((Below.refl _ _).alloc (Nat.le_refl _) _).alloc (by simp) _
  have HPA := Lib.hid hpa
  have HSL := Lib.hid hsl
  have HW2 := Lib.hid hW2
  have HBB := Lib.hid hb0
  have HB2 := Lib.hid hB2
  have R0 := Lib.hid r0
  have R1 := Lib.hid r1
  obtain ⟨x0, x1, x2, x3, x4, x5, x6⟩ := boxP r0
  clear hpa hsl hW2 hb0 hB2 r0 r1 hsv hq ia ib iw ih iy i0
  obtain ⟨qs, qc, qa, qb, qw, qh, qy⟩ := q
  simp only at *
  go_enter Try.func118, Try.ntmps118
  go_wp2_with fail
  rw [HW2.out, HBB.out]
  go_wp2_with fail
  refine (HPA.out W2).mono ?_
  rintro e w3 ⟨rfl, hb3⟩
  clear x0 x1 x2 x3 x4 x5 x6
  have hr0 := keepB R0.out hb3
  have hr1 := keepB R1.out hb3
  have HB3 := Lib.hid (Below.onto hb3 HB2.out)
  clear hb3
  obtain ⟨W4, hW4⟩ : ∃ W, w3.alloc (.cells #[.int .i64 m1, .int .i64 m2] 61) = W := ⟨_, rfl⟩
  obtain ⟨bM, hbM⟩ : ∃ b, w3.heap.size = b := ⟨_, rfl⟩
  have hb4 : Below w3.heap.size w3 W4 := by rw [← hW4]; exact (Below.refl _ _).alloc (Nat.le_refl _) _
  have g0 := keepB hr0 hb4
  have g1 := keepB hr1 hb4
  have g2 : W4.heap[bM]? = some (.cells #[.int .i64 m1, .int .i64 m2] 61 (0, 0)) := by rw [← hW4, ← hbM]; exact heap_alloc_new w3 _
  have HB4 := Lib.hid (Below.onto hb4 HB3.out)
  have HK : Hid (∀ w', Below W4.heap.size W4 w' → Below W4.heap.size W4 w' ∧ w'.cell? ⟨b0, 2, none⟩ = some (.int .i64 qa) ∧ w'.cell? ⟨b0, 3, none⟩ = some (.int .i64 qb) ∧ w'.cell? ⟨b0, 4, none⟩ = some (.int .i64 qw) ∧ w'.cell? ⟨b0 + 1, 0, none⟩ = some (.int .i64 l) ∧ w'.cell? ⟨b0 + 1, 1, none⟩ = some (.int .i64 r) ∧ w'.cell? ⟨bM, 0, none⟩ = some (.int .i64 m1) ∧ w'.cell? ⟨bM, 1, none⟩ = some (.int .i64 m2)) := by
    intro w' hb
    have h0 := boxP (keepB g0 hb)
    exact ⟨hb, h0.2.2.1, h0.2.2.2.1, h0.2.2.2.2.1, (box2 (keepB g1 hb)).1, (box2 (keepB g1 hb)).2, (box2 (keepB g2 hb)).1, (box2 (keepB g2 hb)).2⟩
  have HW4 := Lib.hid hW4
  have HBM := Lib.hid hbM
  clear hr0 hr1 hW4 hbM hb4 g0 g1 g2
  go_wp2_with (first
    | ((with_reducible refine store_new (dst := none) 61 (.tmp 5) (.tmp 9) w3 _ #[.int .i64 m1, .int .i64 m2] 61 rfl ?_ ?_ ?_ ?_ ?_ ?_); rfl; rfl; exact spanInfoP; rfl; (simp [Value.oneCell'])))
  rw [HW4.out, HBM.out]
  rcases HCS.out with ⟨d1, rfl⟩ | ⟨d1, d2, rfl⟩ | ⟨d1, d2, d3, rfl⟩ | ⟨d1, d2, d3, rfl⟩
  · refine wp_region_held_drew (S := (fun w' => Below W4.heap.size W4 w' ∧ w'.cell? ⟨b0, 2, none⟩ = some (.int .i64 qa) ∧ w'.cell? ⟨b0, 3, none⟩ = some (.int .i64 qb) ∧ w'.cell? ⟨b0, 4, none⟩ = some (.int .i64 qw) ∧ w'.cell? ⟨b0 + 1, 0, none⟩ = some (.int .i64 l) ∧ w'.cell? ⟨b0 + 1, 1, none⟩ = some (.int .i64 r) ∧ w'.cell? ⟨bM, 0, none⟩ = some (.int .i64 m1) ∧ w'.cell? ⟨bM, 1, none⟩ = some (.int .i64 m2))) (by kernel_rfl) (HK.out _ ((Below.refl _ _).drew)) (fun hHeld => ?_)
    refine wpAnyH_take (i := 0) (v := ?_) rfl (by kernel_rfl) (by kernel_rfl) (by kernel_rfl) (fun _ _ _ h => h) (Or.inl ⟨by rfl, ?_⟩) (by assumption) ?_
    rotate_left
    focus ((intro wS hSw; (try dsimp only at hSw); go_simp); (try (with_reducible rfl)))
    simp only [Act.put, List.getElem_toArray, List.getElem_cons_zero, List.getElem_cons_succ, List.setIfInBounds_toArray, List.set_cons_zero, List.set_cons_succ]
    refine wpAnyH_take (i := 1) (v := ?_) rfl (by kernel_rfl) (by kernel_rfl) (by kernel_rfl) (fun _ _ _ h => h) (Or.inl ⟨by rfl, ?_⟩) (by assumption) ?_
    rotate_left
    focus ((intro wS hSw; (try dsimp only at hSw); go_simp); (try (with_reducible rfl)))
    simp only [Act.put, List.getElem_toArray, List.getElem_cons_zero, List.getElem_cons_succ, List.setIfInBounds_toArray, List.set_cons_zero, List.set_cons_succ]
    refine wpAnyH_take (i := 2) (v := ?_) rfl (by kernel_rfl) (by kernel_rfl) (by kernel_rfl) (fun _ _ _ h => h) (Or.inl ⟨by rfl, ?_⟩) (by assumption) ?_
    rotate_left
    focus ((intro wS hSw; (try dsimp only at hSw); go_simp); (try (with_reducible rfl)))
    simp only [Act.put, List.getElem_toArray, List.getElem_cons_zero, List.getElem_cons_succ, List.setIfInBounds_toArray, List.set_cons_zero, List.set_cons_succ]
    refine wpAnyH_take (i := 3) (v := ?_) rfl (by kernel_rfl) (by kernel_rfl) (by kernel_rfl) (fun _ _ _ h => h) (Or.inl ⟨by rfl, ?_⟩) (by assumption) ?_
    rotate_left
    focus ((intro wS hSw; (try dsimp only at hSw); go_simp); (try (with_reducible rfl)))
    simp only [Act.put, List.getElem_toArray, List.getElem_cons_zero, List.getElem_cons_succ, List.setIfInBounds_toArray, List.set_cons_zero, List.set_cons_succ]
    refine wpAnyH_ready (rs := [4]) (by kernel_rfl) (by simp) ?_
    refine AllReadyH.cons rfl (fun K hK => ?_) AllReadyH.nil
    go_simp
    refine (HSL.out _).mono ?_
    rintro e y1 ⟨rfl, hbx⟩
    have HE1 := Lib.hid (show Below W4.heap.size W4 y1 from Below.drewL hbx)
    clear hbx
    refine hK.out _ _ (HK.out _ HE1.out) (fun hHeld => ?_)
    clear hK K
    (try simp only [Act.put, List.getElem_toArray, List.getElem_cons_zero, List.getElem_cons_succ, List.setIfInBounds_toArray, List.set_cons_zero, List.set_cons_succ])
    refine wpAnyH_take (i := 5) (v := ?_) rfl (by kernel_rfl) (by kernel_rfl) (by kernel_rfl) (fun _ _ _ h => h) (Or.inl ⟨by rfl, ?_⟩) (by assumption) ?_
    rotate_left
    focus ((intro wS hSw; (try dsimp only at hSw); go_simp); (try (with_reducible rfl)))
    simp only [Act.put, List.getElem_toArray, List.getElem_cons_zero, List.getElem_cons_succ, List.setIfInBounds_toArray, List.set_cons_zero, List.set_cons_succ]
    refine wpAnyH_take (i := 6) (v := ?_) rfl (by kernel_rfl) (by kernel_rfl) (by kernel_rfl) (fun _ _ _ h => h) (Or.inl ⟨by rfl, ?_⟩) (by assumption) ?_
    rotate_left
    focus ((intro wS hSw; (try dsimp only at hSw); go_simp); (try (with_reducible rfl)))
    simp only [Act.put, List.getElem_toArray, List.getElem_cons_zero, List.getElem_cons_succ, List.setIfInBounds_toArray, List.set_cons_zero, List.set_cons_succ]
    refine wpAnyH_take (i := 7) (v := undef) rfl (by kernel_rfl) (by kernel_rfl) (by kernel_rfl) (fun _ _ _ h => h) (Or.inr ⟨by rfl, rfl⟩) (by assumption) ?_
    simp only [Act.put, List.getElem_toArray, List.getElem_cons_zero, List.getElem_cons_succ, List.setIfInBounds_toArray, List.set_cons_zero, List.set_cons_succ]
    refine wpAnyH_take (i := 8) (v := undef) rfl (by kernel_rfl) (by kernel_rfl) (by kernel_rfl) (fun _ _ _ h => h) (Or.inr ⟨by rfl, rfl⟩) (by assumption) ?_
    simp only [Act.put, List.getElem_toArray, List.getElem_cons_zero, List.getElem_cons_succ, List.setIfInBounds_toArray, List.set_cons_zero, List.set_cons_succ]
    refine wpAnyH_take (i := 9) (v := undef) rfl (by kernel_rfl) (by kernel_rfl) (by kernel_rfl) (fun _ _ _ h => h) (Or.inr ⟨by rfl, rfl⟩) (by assumption) ?_
    simp only [Act.put, List.getElem_toArray, List.getElem_cons_zero, List.getElem_cons_succ, List.setIfInBounds_toArray, List.set_cons_zero, List.set_cons_succ]
    refine wpAnyH_take (i := 10) (v := undef) rfl (by kernel_rfl) (by kernel_rfl) (by kernel_rfl) (fun _ _ _ h => h) (Or.inr ⟨by rfl, rfl⟩) (by assumption) ?_
    simp only [Act.put, List.getElem_toArray, List.getElem_cons_zero, List.getElem_cons_succ, List.setIfInBounds_toArray, List.set_cons_zero, List.set_cons_succ]
    refine wpAnyH_take (i := 11) (v := undef) rfl (by kernel_rfl) (by kernel_rfl) (by kernel_rfl) (fun _ _ _ h => h) (Or.inr ⟨by rfl, rfl⟩) (by assumption) ?_
    simp only [Act.put, List.getElem_toArray, List.getElem_cons_zero, List.getElem_cons_succ, List.setIfInBounds_toArray, List.set_cons_zero, List.set_cons_succ]
    refine wpAnyH_take (i := 12) (v := ?_) rfl (by kernel_rfl) (by kernel_rfl) (by kernel_rfl) (fun _ _ _ h => h) (Or.inl ⟨by rfl, ?_⟩) (by assumption) ?_
    rotate_left
    focus ((intro wS hSw; (try dsimp only at hSw); go_simp); (try (with_reducible rfl)))
    simp only [Act.put, List.getElem_toArray, List.getElem_cons_zero, List.getElem_cons_succ, List.setIfInBounds_toArray, List.set_cons_zero, List.set_cons_succ]
    refine wpAnyH_take (i := 13) (v := ?_) rfl (by kernel_rfl) (by kernel_rfl) (by kernel_rfl) (fun _ _ _ h => h) (Or.inl ⟨by rfl, ?_⟩) (by assumption) ?_
    rotate_left
    focus ((intro wS hSw; (try dsimp only at hSw); go_simp); (try (with_reducible rfl)))
    simp only [Act.put, List.getElem_toArray, List.getElem_cons_zero, List.getElem_cons_succ, List.setIfInBounds_toArray, List.set_cons_zero, List.set_cons_succ]
    refine wpAnyH_take (i := 14) (v := undef) rfl (by kernel_rfl) (by kernel_rfl) (by kernel_rfl) (fun _ _ _ h => h) (Or.inr ⟨by rfl, rfl⟩) (by assumption) ?_
    simp only [Act.put, List.getElem_toArray, List.getElem_cons_zero, List.getElem_cons_succ, List.setIfInBounds_toArray, List.set_cons_zero, List.set_cons_succ]
    refine wpAnyH_take (i := 15) (v := undef) rfl (by kernel_rfl) (by kernel_rfl) (by kernel_rfl) (fun _ _ _ h => h) (Or.inr ⟨by rfl, rfl⟩) (by assumption) ?_
    simp only [Act.put, List.getElem_toArray, List.getElem_cons_zero, List.getElem_cons_succ, List.setIfInBounds_toArray, List.set_cons_zero, List.set_cons_succ]
    refine wpAnyH_take (i := 16) (v := undef) rfl (by kernel_rfl) (by kernel_rfl) (by kernel_rfl) (fun _ _ _ h => h) (Or.inr ⟨by rfl, rfl⟩) (by assumption) ?_
    simp only [Act.put, List.getElem_toArray, List.getElem_cons_zero, List.getElem_cons_succ, List.setIfInBounds_toArray, List.set_cons_zero, List.set_cons_succ]
    refine wpAnyH_take (i := 17) (v := undef) rfl (by kernel_rfl) (by kernel_rfl) (by kernel_rfl) (fun _ _ _ h => h) (Or.inr ⟨by rfl, rfl⟩) (by assumption) ?_
    simp only [Act.put, List.getElem_toArray, List.getElem_cons_zero, List.getElem_cons_succ, List.setIfInBounds_toArray, List.set_cons_zero, List.set_cons_succ]
    refine wpAnyH_take (i := 18) (v := undef) rfl (by kernel_rfl) (by kernel_rfl) (by kernel_rfl) (fun _ _ _ h => h) (Or.inr ⟨by rfl, rfl⟩) (by assumption) ?_
    simp only [Act.put, List.getElem_toArray, List.getElem_cons_zero, List.getElem_cons_succ, List.setIfInBounds_toArray, List.set_cons_zero, List.set_cons_succ]
    refine wpAnyH_take (i := 19) (v := ?_) rfl (by kernel_rfl) (by kernel_rfl) (by kernel_rfl) (fun _ _ _ h => h) (Or.inl ⟨by rfl, ?_⟩) (by assumption) ?_
    rotate_left
    focus ((intro wS hSw; (try dsimp only at hSw); go_simp); (try (with_reducible rfl)))
    simp only [Act.put, List.getElem_toArray, List.getElem_cons_zero, List.getElem_cons_succ, List.setIfInBounds_toArray, List.set_cons_zero, List.set_cons_succ]
    refine wpAnyH_take (i := 20) (v := ?_) rfl (by kernel_rfl) (by kernel_rfl) (by kernel_rfl) (fun _ _ _ h => h) (Or.inl ⟨by rfl, ?_⟩) (by assumption) ?_
    rotate_left
    focus ((intro wS hSw; (try dsimp only at hSw); go_simp); (try (with_reducible rfl)))
    simp only [Act.put, List.getElem_toArray, List.getElem_cons_zero, List.getElem_cons_succ, List.setIfInBounds_toArray, List.set_cons_zero, List.set_cons_succ]
    refine wpAnyH_done (by kernel_rfl) ?_ _
    clear hHeld
    go_wp2_with fail
    go_ret
    exact ⟨rfl, Below.onto HE1.out HB4.out⟩
  · refine wp_region_held_drew (S := (fun w' => Below W4.heap.size W4 w' ∧ w'.cell? ⟨b0, 2, none⟩ = some (.int .i64 qa) ∧ w'.cell? ⟨b0, 3, none⟩ = some (.int .i64 qb) ∧ w'.cell? ⟨b0, 4, none⟩ = some (.int .i64 qw) ∧ w'.cell? ⟨b0 + 1, 0, none⟩ = some (.int .i64 l) ∧ w'.cell? ⟨b0 + 1, 1, none⟩ = some (.int .i64 r) ∧ w'.cell? ⟨bM, 0, none⟩ = some (.int .i64 m1) ∧ w'.cell? ⟨bM, 1, none⟩ = some (.int .i64 m2))) (by kernel_rfl) (HK.out _ ((Below.refl _ _).drew)) (fun hHeld => ?_)
    refine wpAnyH_take (i := 0) (v := ?_) rfl (by kernel_rfl) (by kernel_rfl) (by kernel_rfl) (fun _ _ _ h => h) (Or.inl ⟨by rfl, ?_⟩) (by assumption) ?_
    rotate_left
    focus ((intro wS hSw; (try dsimp only at hSw); go_simp); (try (with_reducible rfl)))
    simp only [Act.put, List.getElem_toArray, List.getElem_cons_zero, List.getElem_cons_succ, List.setIfInBounds_toArray, List.set_cons_zero, List.set_cons_succ]
    refine wpAnyH_take (i := 1) (v := ?_) rfl (by kernel_rfl) (by kernel_rfl) (by kernel_rfl) (fun _ _ _ h => h) (Or.inl ⟨by rfl, ?_⟩) (by assumption) ?_
    rotate_left
    focus ((intro wS hSw; (try dsimp only at hSw); go_simp); (try (with_reducible rfl)))
    simp only [Act.put, List.getElem_toArray, List.getElem_cons_zero, List.getElem_cons_succ, List.setIfInBounds_toArray, List.set_cons_zero, List.set_cons_succ]
    refine wpAnyH_take (i := 2) (v := ?_) rfl (by kernel_rfl) (by kernel_rfl) (by kernel_rfl) (fun _ _ _ h => h) (Or.inl ⟨by rfl, ?_⟩) (by assumption) ?_
    rotate_left
    focus ((intro wS hSw; (try dsimp only at hSw); go_simp); (try (with_reducible rfl)))
    simp only [Act.put, List.getElem_toArray, List.getElem_cons_zero, List.getElem_cons_succ, List.setIfInBounds_toArray, List.set_cons_zero, List.set_cons_succ]
    refine wpAnyH_take (i := 3) (v := ?_) rfl (by kernel_rfl) (by kernel_rfl) (by kernel_rfl) (fun _ _ _ h => h) (Or.inl ⟨by rfl, ?_⟩) (by assumption) ?_
    rotate_left
    focus ((intro wS hSw; (try dsimp only at hSw); go_simp); (try (with_reducible rfl)))
    simp only [Act.put, List.getElem_toArray, List.getElem_cons_zero, List.getElem_cons_succ, List.setIfInBounds_toArray, List.set_cons_zero, List.set_cons_succ]
    refine wpAnyH_ready (rs := [4]) (by kernel_rfl) (by simp) ?_
    refine AllReadyH.cons rfl (fun K hK => ?_) AllReadyH.nil
    go_simp
    refine (HSL.out _).mono ?_
    rintro e y1 ⟨rfl, hbx⟩
    have HE1 := Lib.hid (show Below W4.heap.size W4 y1 from Below.drewL hbx)
    clear hbx
    refine hK.out _ _ (HK.out _ HE1.out) (fun hHeld => ?_)
    clear hK K
    (try simp only [Act.put, List.getElem_toArray, List.getElem_cons_zero, List.getElem_cons_succ, List.setIfInBounds_toArray, List.set_cons_zero, List.set_cons_succ])
    refine wpAnyH_take (i := 5) (v := ?_) rfl (by kernel_rfl) (by kernel_rfl) (by kernel_rfl) (fun _ _ _ h => h) (Or.inl ⟨by rfl, ?_⟩) (by assumption) ?_
    rotate_left
    focus ((intro wS hSw; (try dsimp only at hSw); go_simp); (try (with_reducible rfl)))
    simp only [Act.put, List.getElem_toArray, List.getElem_cons_zero, List.getElem_cons_succ, List.setIfInBounds_toArray, List.set_cons_zero, List.set_cons_succ]
    refine wpAnyH_take (i := 6) (v := ?_) rfl (by kernel_rfl) (by kernel_rfl) (by kernel_rfl) (fun _ _ _ h => h) (Or.inl ⟨by rfl, ?_⟩) (by assumption) ?_
    rotate_left
    focus ((intro wS hSw; (try dsimp only at hSw); go_simp); (try (with_reducible rfl)))
    simp only [Act.put, List.getElem_toArray, List.getElem_cons_zero, List.getElem_cons_succ, List.setIfInBounds_toArray, List.set_cons_zero, List.set_cons_succ]
    refine wpAnyH_take (i := 7) (v := ?_) rfl (by kernel_rfl) (by kernel_rfl) (by kernel_rfl) (fun _ _ _ h => h) (Or.inl ⟨by rfl, ?_⟩) (by assumption) ?_
    rotate_left
    focus ((intro wS hSw; (try dsimp only at hSw); go_simp); (try (with_reducible rfl)))
    simp only [Act.put, List.getElem_toArray, List.getElem_cons_zero, List.getElem_cons_succ, List.setIfInBounds_toArray, List.set_cons_zero, List.set_cons_succ]
    refine wpAnyH_take (i := 8) (v := ?_) rfl (by kernel_rfl) (by kernel_rfl) (by kernel_rfl) (fun _ _ _ h => h) (Or.inl ⟨by rfl, ?_⟩) (by assumption) ?_
    rotate_left
    focus ((intro wS hSw; (try dsimp only at hSw); go_simp); (try (with_reducible rfl)))
    simp only [Act.put, List.getElem_toArray, List.getElem_cons_zero, List.getElem_cons_succ, List.setIfInBounds_toArray, List.set_cons_zero, List.set_cons_succ]
    refine wpAnyH_take (i := 9) (v := ?_) rfl (by kernel_rfl) (by kernel_rfl) (by kernel_rfl) (fun _ _ _ h => h) (Or.inl ⟨by rfl, ?_⟩) (by assumption) ?_
    rotate_left
    focus ((intro wS hSw; (try dsimp only at hSw); go_simp); (try (with_reducible rfl)))
    simp only [Act.put, List.getElem_toArray, List.getElem_cons_zero, List.getElem_cons_succ, List.setIfInBounds_toArray, List.set_cons_zero, List.set_cons_succ]
    refine wpAnyH_take (i := 10) (v := ?_) rfl (by kernel_rfl) (by kernel_rfl) (by kernel_rfl) (fun _ _ _ h => h) (Or.inl ⟨by rfl, ?_⟩) (by assumption) ?_
    rotate_left
    focus ((intro wS hSw; (try dsimp only at hSw); go_simp); (try (with_reducible rfl)))
    simp only [Act.put, List.getElem_toArray, List.getElem_cons_zero, List.getElem_cons_succ, List.setIfInBounds_toArray, List.set_cons_zero, List.set_cons_succ]
    refine wpAnyH_take (i := 11) (v := ?_) rfl (by kernel_rfl) (by kernel_rfl) (by kernel_rfl) (fun _ _ _ h => h) (Or.inl ⟨by rfl, ?_⟩) (by assumption) ?_
    rotate_left
    focus ((intro wS hSw; (try dsimp only at hSw); go_simp); (try (with_reducible rfl)))
    simp only [Act.put, List.getElem_toArray, List.getElem_cons_zero, List.getElem_cons_succ, List.setIfInBounds_toArray, List.set_cons_zero, List.set_cons_succ]
    refine wpAnyH_take (i := 12) (v := ?_) rfl (by kernel_rfl) (by kernel_rfl) (by kernel_rfl) (fun _ _ _ h => h) (Or.inl ⟨by rfl, ?_⟩) (by assumption) ?_
    rotate_left
    focus ((intro wS hSw; (try dsimp only at hSw); go_simp); (try (with_reducible rfl)))
    simp only [Act.put, List.getElem_toArray, List.getElem_cons_zero, List.getElem_cons_succ, List.setIfInBounds_toArray, List.set_cons_zero, List.set_cons_succ]
    refine wpAnyH_take (i := 13) (v := ?_) rfl (by kernel_rfl) (by kernel_rfl) (by kernel_rfl) (fun _ _ _ h => h) (Or.inl ⟨by rfl, ?_⟩) (by assumption) ?_
    rotate_left
    focus ((intro wS hSw; (try dsimp only at hSw); go_simp); (try (with_reducible rfl)))
    simp only [Act.put, List.getElem_toArray, List.getElem_cons_zero, List.getElem_cons_succ, List.setIfInBounds_toArray, List.set_cons_zero, List.set_cons_succ]
    refine wpAnyH_take (i := 14) (v := undef) rfl (by kernel_rfl) (by kernel_rfl) (by kernel_rfl) (fun _ _ _ h => h) (Or.inr ⟨by rfl, rfl⟩) (by assumption) ?_
    simp only [Act.put, List.getElem_toArray, List.getElem_cons_zero, List.getElem_cons_succ, List.setIfInBounds_toArray, List.set_cons_zero, List.set_cons_succ]
    refine wpAnyH_take (i := 15) (v := undef) rfl (by kernel_rfl) (by kernel_rfl) (by kernel_rfl) (fun _ _ _ h => h) (Or.inr ⟨by rfl, rfl⟩) (by assumption) ?_
    simp only [Act.put, List.getElem_toArray, List.getElem_cons_zero, List.getElem_cons_succ, List.setIfInBounds_toArray, List.set_cons_zero, List.set_cons_succ]
    refine wpAnyH_take (i := 16) (v := undef) rfl (by kernel_rfl) (by kernel_rfl) (by kernel_rfl) (fun _ _ _ h => h) (Or.inr ⟨by rfl, rfl⟩) (by assumption) ?_
    simp only [Act.put, List.getElem_toArray, List.getElem_cons_zero, List.getElem_cons_succ, List.setIfInBounds_toArray, List.set_cons_zero, List.set_cons_succ]
    refine wpAnyH_take (i := 17) (v := undef) rfl (by kernel_rfl) (by kernel_rfl) (by kernel_rfl) (fun _ _ _ h => h) (Or.inr ⟨by rfl, rfl⟩) (by assumption) ?_
    simp only [Act.put, List.getElem_toArray, List.getElem_cons_zero, List.getElem_cons_succ, List.setIfInBounds_toArray, List.set_cons_zero, List.set_cons_succ]
    refine wpAnyH_take (i := 18) (v := undef) rfl (by kernel_rfl) (by kernel_rfl) (by kernel_rfl) (fun _ _ _ h => h) (Or.inr ⟨by rfl, rfl⟩) (by assumption) ?_
    simp only [Act.put, List.getElem_toArray, List.getElem_cons_zero, List.getElem_cons_succ, List.setIfInBounds_toArray, List.set_cons_zero, List.set_cons_succ]
    refine wpAnyH_take (i := 19) (v := ?_) rfl (by kernel_rfl) (by kernel_rfl) (by kernel_rfl) (fun _ _ _ h => h) (Or.inl ⟨by rfl, ?_⟩) (by assumption) ?_
    rotate_left
    focus ((intro wS hSw; (try dsimp only at hSw); go_simp); (try (with_reducible rfl)))
    simp only [Act.put, List.getElem_toArray, List.getElem_cons_zero, List.getElem_cons_succ, List.setIfInBounds_toArray, List.set_cons_zero, List.set_cons_succ]
    refine wpAnyH_take (i := 20) (v := ?_) rfl (by kernel_rfl) (by kernel_rfl) (by kernel_rfl) (fun _ _ _ h => h) (Or.inl ⟨by rfl, ?_⟩) (by assumption) ?_
    rotate_left
    focus ((intro wS hSw; (try dsimp only at hSw); go_simp); (try (with_reducible rfl)))
    simp only [Act.put, List.getElem_toArray, List.getElem_cons_zero, List.getElem_cons_succ, List.setIfInBounds_toArray, List.set_cons_zero, List.set_cons_succ]
    refine wpAnyH_done (by kernel_rfl) ?_ _
    clear hHeld
    go_wp2_with fail
    go_ret
    exact ⟨rfl, Below.onto HE1.out HB4.out⟩
  · refine wp_region_held_drew (S := (fun w' => Below W4.heap.size W4 w' ∧ w'.cell? ⟨b0, 2, none⟩ = some (.int .i64 qa) ∧ w'.cell? ⟨b0, 3, none⟩ = some (.int .i64 qb) ∧ w'.cell? ⟨b0, 4, none⟩ = some (.int .i64 qw) ∧ w'.cell? ⟨b0 + 1, 0, none⟩ = some (.int .i64 l) ∧ w'.cell? ⟨b0 + 1, 1, none⟩ = some (.int .i64 r) ∧ w'.cell? ⟨bM, 0, none⟩ = some (.int .i64 m1) ∧ w'.cell? ⟨bM, 1, none⟩ = some (.int .i64 m2))) (by kernel_rfl) (HK.out _ ((Below.refl _ _).drew)) (fun hHeld => ?_)
    refine wpAnyH_take (i := 0) (v := ?_) rfl (by kernel_rfl) (by kernel_rfl) (by kernel_rfl) (fun _ _ _ h => h) (Or.inl ⟨by rfl, ?_⟩) (by assumption) ?_
    rotate_left
    focus ((intro wS hSw; (try dsimp only at hSw); go_simp); (try (with_reducible rfl)))
    simp only [Act.put, List.getElem_toArray, List.getElem_cons_zero, List.getElem_cons_succ, List.setIfInBounds_toArray, List.set_cons_zero, List.set_cons_succ]
    refine wpAnyH_take (i := 1) (v := ?_) rfl (by kernel_rfl) (by kernel_rfl) (by kernel_rfl) (fun _ _ _ h => h) (Or.inl ⟨by rfl, ?_⟩) (by assumption) ?_
    rotate_left
    focus ((intro wS hSw; (try dsimp only at hSw); go_simp); (try (with_reducible rfl)))
    simp only [Act.put, List.getElem_toArray, List.getElem_cons_zero, List.getElem_cons_succ, List.setIfInBounds_toArray, List.set_cons_zero, List.set_cons_succ]
    refine wpAnyH_take (i := 2) (v := ?_) rfl (by kernel_rfl) (by kernel_rfl) (by kernel_rfl) (fun _ _ _ h => h) (Or.inl ⟨by rfl, ?_⟩) (by assumption) ?_
    rotate_left
    focus ((intro wS hSw; (try dsimp only at hSw); go_simp); (try (with_reducible rfl)))
    simp only [Act.put, List.getElem_toArray, List.getElem_cons_zero, List.getElem_cons_succ, List.setIfInBounds_toArray, List.set_cons_zero, List.set_cons_succ]
    refine wpAnyH_take (i := 3) (v := ?_) rfl (by kernel_rfl) (by kernel_rfl) (by kernel_rfl) (fun _ _ _ h => h) (Or.inl ⟨by rfl, ?_⟩) (by assumption) ?_
    rotate_left
    focus ((intro wS hSw; (try dsimp only at hSw); go_simp); (try (with_reducible rfl)))
    simp only [Act.put, List.getElem_toArray, List.getElem_cons_zero, List.getElem_cons_succ, List.setIfInBounds_toArray, List.set_cons_zero, List.set_cons_succ]
    refine wpAnyH_ready (rs := [4]) (by kernel_rfl) (by simp) ?_
    refine AllReadyH.cons rfl (fun K hK => ?_) AllReadyH.nil
    go_simp
    refine (HSL.out _).mono ?_
    rintro e y1 ⟨rfl, hbx⟩
    have HE1 := Lib.hid (show Below W4.heap.size W4 y1 from Below.drewL hbx)
    clear hbx
    refine hK.out _ _ (HK.out _ HE1.out) (fun hHeld => ?_)
    clear hK K
    (try simp only [Act.put, List.getElem_toArray, List.getElem_cons_zero, List.getElem_cons_succ, List.setIfInBounds_toArray, List.set_cons_zero, List.set_cons_succ])
    refine wpAnyH_take (i := 5) (v := ?_) rfl (by kernel_rfl) (by kernel_rfl) (by kernel_rfl) (fun _ _ _ h => h) (Or.inl ⟨by rfl, ?_⟩) (by assumption) ?_
    rotate_left
    focus ((intro wS hSw; (try dsimp only at hSw); go_simp); (try (with_reducible rfl)))
    simp only [Act.put, List.getElem_toArray, List.getElem_cons_zero, List.getElem_cons_succ, List.setIfInBounds_toArray, List.set_cons_zero, List.set_cons_succ]
    refine wpAnyH_take (i := 6) (v := ?_) rfl (by kernel_rfl) (by kernel_rfl) (by kernel_rfl) (fun _ _ _ h => h) (Or.inl ⟨by rfl, ?_⟩) (by assumption) ?_
    rotate_left
    focus ((intro wS hSw; (try dsimp only at hSw); go_simp); (try (with_reducible rfl)))
    simp only [Act.put, List.getElem_toArray, List.getElem_cons_zero, List.getElem_cons_succ, List.setIfInBounds_toArray, List.set_cons_zero, List.set_cons_succ]
    refine wpAnyH_take (i := 7) (v := ?_) rfl (by kernel_rfl) (by kernel_rfl) (by kernel_rfl) (fun _ _ _ h => h) (Or.inl ⟨by rfl, ?_⟩) (by assumption) ?_
    rotate_left
    focus ((intro wS hSw; (try dsimp only at hSw); go_simp); (try (with_reducible rfl)))
    simp only [Act.put, List.getElem_toArray, List.getElem_cons_zero, List.getElem_cons_succ, List.setIfInBounds_toArray, List.set_cons_zero, List.set_cons_succ]
    refine wpAnyH_take (i := 8) (v := ?_) rfl (by kernel_rfl) (by kernel_rfl) (by kernel_rfl) (fun _ _ _ h => h) (Or.inl ⟨by rfl, ?_⟩) (by assumption) ?_
    rotate_left
    focus ((intro wS hSw; (try dsimp only at hSw); go_simp); (try (with_reducible rfl)))
    simp only [Act.put, List.getElem_toArray, List.getElem_cons_zero, List.getElem_cons_succ, List.setIfInBounds_toArray, List.set_cons_zero, List.set_cons_succ]
    refine wpAnyH_take (i := 9) (v := ?_) rfl (by kernel_rfl) (by kernel_rfl) (by kernel_rfl) (fun _ _ _ h => h) (Or.inl ⟨by rfl, ?_⟩) (by assumption) ?_
    rotate_left
    focus ((intro wS hSw; (try dsimp only at hSw); go_simp); (try (with_reducible rfl)))
    simp only [Act.put, List.getElem_toArray, List.getElem_cons_zero, List.getElem_cons_succ, List.setIfInBounds_toArray, List.set_cons_zero, List.set_cons_succ]
    refine wpAnyH_take (i := 10) (v := ?_) rfl (by kernel_rfl) (by kernel_rfl) (by kernel_rfl) (fun _ _ _ h => h) (Or.inl ⟨by rfl, ?_⟩) (by assumption) ?_
    rotate_left
    focus ((intro wS hSw; (try dsimp only at hSw); go_simp); (try (with_reducible rfl)))
    simp only [Act.put, List.getElem_toArray, List.getElem_cons_zero, List.getElem_cons_succ, List.setIfInBounds_toArray, List.set_cons_zero, List.set_cons_succ]
    refine wpAnyH_take (i := 11) (v := ?_) rfl (by kernel_rfl) (by kernel_rfl) (by kernel_rfl) (fun _ _ _ h => h) (Or.inl ⟨by rfl, ?_⟩) (by assumption) ?_
    rotate_left
    focus ((intro wS hSw; (try dsimp only at hSw); go_simp); (try (with_reducible rfl)))
    simp only [Act.put, List.getElem_toArray, List.getElem_cons_zero, List.getElem_cons_succ, List.setIfInBounds_toArray, List.set_cons_zero, List.set_cons_succ]
    refine wpAnyH_take (i := 12) (v := ?_) rfl (by kernel_rfl) (by kernel_rfl) (by kernel_rfl) (fun _ _ _ h => h) (Or.inl ⟨by rfl, ?_⟩) (by assumption) ?_
    rotate_left
    focus ((intro wS hSw; (try dsimp only at hSw); go_simp); (try (with_reducible rfl)))
    simp only [Act.put, List.getElem_toArray, List.getElem_cons_zero, List.getElem_cons_succ, List.setIfInBounds_toArray, List.set_cons_zero, List.set_cons_succ]
    refine wpAnyH_take (i := 13) (v := ?_) rfl (by kernel_rfl) (by kernel_rfl) (by kernel_rfl) (fun _ _ _ h => h) (Or.inl ⟨by rfl, ?_⟩) (by assumption) ?_
    rotate_left
    focus ((intro wS hSw; (try dsimp only at hSw); go_simp); (try (with_reducible rfl)))
    simp only [Act.put, List.getElem_toArray, List.getElem_cons_zero, List.getElem_cons_succ, List.setIfInBounds_toArray, List.set_cons_zero, List.set_cons_succ]
    refine wpAnyH_take (i := 14) (v := ?_) rfl (by kernel_rfl) (by kernel_rfl) (by kernel_rfl) (fun _ _ _ h => h) (Or.inl ⟨by rfl, ?_⟩) (by assumption) ?_
    rotate_left
    focus ((intro wS hSw; (try dsimp only at hSw); go_simp); (try (with_reducible rfl)))
    simp only [Act.put, List.getElem_toArray, List.getElem_cons_zero, List.getElem_cons_succ, List.setIfInBounds_toArray, List.set_cons_zero, List.set_cons_succ]
    refine wpAnyH_take (i := 15) (v := ?_) rfl (by kernel_rfl) (by kernel_rfl) (by kernel_rfl) (fun _ _ _ h => h) (Or.inl ⟨by rfl, ?_⟩) (by assumption) ?_
    rotate_left
    focus ((intro wS hSw; (try dsimp only at hSw); go_simp); (try (with_reducible rfl)))
    simp only [Act.put, List.getElem_toArray, List.getElem_cons_zero, List.getElem_cons_succ, List.setIfInBounds_toArray, List.set_cons_zero, List.set_cons_succ]
    refine wpAnyH_take (i := 16) (v := ?_) rfl (by kernel_rfl) (by kernel_rfl) (by kernel_rfl) (fun _ _ _ h => h) (Or.inl ⟨by rfl, ?_⟩) (by assumption) ?_
    rotate_left
    focus ((intro wS hSw; (try dsimp only at hSw); go_simp); (try (with_reducible rfl)))
    simp only [Act.put, List.getElem_toArray, List.getElem_cons_zero, List.getElem_cons_succ, List.setIfInBounds_toArray, List.set_cons_zero, List.set_cons_succ]
    refine wpAnyH_take (i := 17) (v := ?_) rfl (by kernel_rfl) (by kernel_rfl) (by kernel_rfl) (fun _ _ _ h => h) (Or.inl ⟨by rfl, ?_⟩) (by assumption) ?_
    rotate_left
    focus ((intro wS hSw; (try dsimp only at hSw); go_simp); (try (with_reducible rfl)))
    simp only [Act.put, List.getElem_toArray, List.getElem_cons_zero, List.getElem_cons_succ, List.setIfInBounds_toArray, List.set_cons_zero, List.set_cons_succ]
    refine wpAnyH_take (i := 18) (v := ?_) rfl (by kernel_rfl) (by kernel_rfl) (by kernel_rfl) (fun _ _ _ h => h) (Or.inl ⟨by rfl, ?_⟩) (by assumption) ?_
    rotate_left
    focus ((intro wS hSw; (try dsimp only at hSw); go_simp); (try (with_reducible rfl)))
    simp only [Act.put, List.getElem_toArray, List.getElem_cons_zero, List.getElem_cons_succ, List.setIfInBounds_toArray, List.set_cons_zero, List.set_cons_succ]
    refine wpAnyH_take (i := 19) (v := ?_) rfl (by kernel_rfl) (by kernel_rfl) (by kernel_rfl) (fun _ _ _ h => h) (Or.inl ⟨by rfl, ?_⟩) (by assumption) ?_
    rotate_left
    focus ((intro wS hSw; (try dsimp only at hSw); go_simp); (try (with_reducible rfl)))
    simp only [Act.put, List.getElem_toArray, List.getElem_cons_zero, List.getElem_cons_succ, List.setIfInBounds_toArray, List.set_cons_zero, List.set_cons_succ]
    refine wpAnyH_take (i := 20) (v := ?_) rfl (by kernel_rfl) (by kernel_rfl) (by kernel_rfl) (fun _ _ _ h => h) (Or.inl ⟨by rfl, ?_⟩) (by assumption) ?_
    rotate_left
    focus ((intro wS hSw; (try dsimp only at hSw); go_simp); (try (with_reducible rfl)))
    simp only [Act.put, List.getElem_toArray, List.getElem_cons_zero, List.getElem_cons_succ, List.setIfInBounds_toArray, List.set_cons_zero, List.set_cons_succ]
    refine wpAnyH_done (by kernel_rfl) ?_ _
    clear hHeld
    go_wp2_with fail
    go_ret
    exact ⟨rfl, Below.onto HE1.out HB4.out⟩
  · refine wp_region_held_drew (S := (fun w' => Below W4.heap.size W4 w' ∧ w'.cell? ⟨b0, 2, none⟩ = some (.int .i64 qa) ∧ w'.cell? ⟨b0, 3, none⟩ = some (.int .i64 qb) ∧ w'.cell? ⟨b0, 4, none⟩ = some (.int .i64 qw) ∧ w'.cell? ⟨b0 + 1, 0, none⟩ = some (.int .i64 l) ∧ w'.cell? ⟨b0 + 1, 1, none⟩ = some (.int .i64 r) ∧ w'.cell? ⟨bM, 0, none⟩ = some (.int .i64 m1) ∧ w'.cell? ⟨bM, 1, none⟩ = some (.int .i64 m2))) (by kernel_rfl) (HK.out _ ((Below.refl _ _).drew)) (fun hHeld => ?_)
    refine wpAnyH_take (i := 0) (v := ?_) rfl (by kernel_rfl) (by kernel_rfl) (by kernel_rfl) (fun _ _ _ h => h) (Or.inl ⟨by rfl, ?_⟩) (by assumption) ?_
    rotate_left
    focus ((intro wS hSw; (try dsimp only at hSw); go_simp); (try (with_reducible rfl)))
    simp only [Act.put, List.getElem_toArray, List.getElem_cons_zero, List.getElem_cons_succ, List.setIfInBounds_toArray, List.set_cons_zero, List.set_cons_succ]
    refine wpAnyH_take (i := 1) (v := ?_) rfl (by kernel_rfl) (by kernel_rfl) (by kernel_rfl) (fun _ _ _ h => h) (Or.inl ⟨by rfl, ?_⟩) (by assumption) ?_
    rotate_left
    focus ((intro wS hSw; (try dsimp only at hSw); go_simp); (try (with_reducible rfl)))
    simp only [Act.put, List.getElem_toArray, List.getElem_cons_zero, List.getElem_cons_succ, List.setIfInBounds_toArray, List.set_cons_zero, List.set_cons_succ]
    refine wpAnyH_take (i := 2) (v := ?_) rfl (by kernel_rfl) (by kernel_rfl) (by kernel_rfl) (fun _ _ _ h => h) (Or.inl ⟨by rfl, ?_⟩) (by assumption) ?_
    rotate_left
    focus ((intro wS hSw; (try dsimp only at hSw); go_simp); (try (with_reducible rfl)))
    simp only [Act.put, List.getElem_toArray, List.getElem_cons_zero, List.getElem_cons_succ, List.setIfInBounds_toArray, List.set_cons_zero, List.set_cons_succ]
    refine wpAnyH_take (i := 3) (v := ?_) rfl (by kernel_rfl) (by kernel_rfl) (by kernel_rfl) (fun _ _ _ h => h) (Or.inl ⟨by rfl, ?_⟩) (by assumption) ?_
    rotate_left
    focus ((intro wS hSw; (try dsimp only at hSw); go_simp); (try (with_reducible rfl)))
    simp only [Act.put, List.getElem_toArray, List.getElem_cons_zero, List.getElem_cons_succ, List.setIfInBounds_toArray, List.set_cons_zero, List.set_cons_succ]
    refine wpAnyH_ready (rs := [4]) (by kernel_rfl) (by simp) ?_
    refine AllReadyH.cons rfl (fun K hK => ?_) AllReadyH.nil
    go_simp
    refine (HSL.out _).mono ?_
    rintro e y1 ⟨rfl, hbx⟩
    have HE1 := Lib.hid (show Below W4.heap.size W4 y1 from Below.drewL hbx)
    clear hbx
    refine hK.out _ _ (HK.out _ HE1.out) (fun hHeld => ?_)
    clear hK K
    (try simp only [Act.put, List.getElem_toArray, List.getElem_cons_zero, List.getElem_cons_succ, List.setIfInBounds_toArray, List.set_cons_zero, List.set_cons_succ])
    refine wpAnyH_take (i := 5) (v := ?_) rfl (by kernel_rfl) (by kernel_rfl) (by kernel_rfl) (fun _ _ _ h => h) (Or.inl ⟨by rfl, ?_⟩) (by assumption) ?_
    rotate_left
    focus ((intro wS hSw; (try dsimp only at hSw); go_simp); (try (with_reducible rfl)))
    simp only [Act.put, List.getElem_toArray, List.getElem_cons_zero, List.getElem_cons_succ, List.setIfInBounds_toArray, List.set_cons_zero, List.set_cons_succ]
    refine wpAnyH_take (i := 6) (v := ?_) rfl (by kernel_rfl) (by kernel_rfl) (by kernel_rfl) (fun _ _ _ h => h) (Or.inl ⟨by rfl, ?_⟩) (by assumption) ?_
    rotate_left
    focus ((intro wS hSw; (try dsimp only at hSw); go_simp); (try (with_reducible rfl)))
    simp only [Act.put, List.getElem_toArray, List.getElem_cons_zero, List.getElem_cons_succ, List.setIfInBounds_toArray, List.set_cons_zero, List.set_cons_succ]
    refine wpAnyH_take (i := 7) (v := ?_) rfl (by kernel_rfl) (by kernel_rfl) (by kernel_rfl) (fun _ _ _ h => h) (Or.inl ⟨by rfl, ?_⟩) (by assumption) ?_
    rotate_left
    focus ((intro wS hSw; (try dsimp only at hSw); go_simp); (try (with_reducible rfl)))
    simp only [Act.put, List.getElem_toArray, List.getElem_cons_zero, List.getElem_cons_succ, List.setIfInBounds_toArray, List.set_cons_zero, List.set_cons_succ]
    refine wpAnyH_take (i := 8) (v := ?_) rfl (by kernel_rfl) (by kernel_rfl) (by kernel_rfl) (fun _ _ _ h => h) (Or.inl ⟨by rfl, ?_⟩) (by assumption) ?_
    rotate_left
    focus ((intro wS hSw; (try dsimp only at hSw); go_simp); (try (with_reducible rfl)))
    simp only [Act.put, List.getElem_toArray, List.getElem_cons_zero, List.getElem_cons_succ, List.setIfInBounds_toArray, List.set_cons_zero, List.set_cons_succ]
    refine wpAnyH_take (i := 9) (v := ?_) rfl (by kernel_rfl) (by kernel_rfl) (by kernel_rfl) (fun _ _ _ h => h) (Or.inl ⟨by rfl, ?_⟩) (by assumption) ?_
    rotate_left
    focus ((intro wS hSw; (try dsimp only at hSw); go_simp); (try (with_reducible rfl)))
    simp only [Act.put, List.getElem_toArray, List.getElem_cons_zero, List.getElem_cons_succ, List.setIfInBounds_toArray, List.set_cons_zero, List.set_cons_succ]
    refine wpAnyH_take (i := 10) (v := ?_) rfl (by kernel_rfl) (by kernel_rfl) (by kernel_rfl) (fun _ _ _ h => h) (Or.inl ⟨by rfl, ?_⟩) (by assumption) ?_
    rotate_left
    focus ((intro wS hSw; (try dsimp only at hSw); go_simp); (try (with_reducible rfl)))
    simp only [Act.put, List.getElem_toArray, List.getElem_cons_zero, List.getElem_cons_succ, List.setIfInBounds_toArray, List.set_cons_zero, List.set_cons_succ]
    refine wpAnyH_take (i := 11) (v := ?_) rfl (by kernel_rfl) (by kernel_rfl) (by kernel_rfl) (fun _ _ _ h => h) (Or.inl ⟨by rfl, ?_⟩) (by assumption) ?_
    rotate_left
    focus ((intro wS hSw; (try dsimp only at hSw); go_simp); (try (with_reducible rfl)))
    simp only [Act.put, List.getElem_toArray, List.getElem_cons_zero, List.getElem_cons_succ, List.setIfInBounds_toArray, List.set_cons_zero, List.set_cons_succ]
    refine wpAnyH_take (i := 12) (v := ?_) rfl (by kernel_rfl) (by kernel_rfl) (by kernel_rfl) (fun _ _ _ h => h) (Or.inl ⟨by rfl, ?_⟩) (by assumption) ?_
    rotate_left
    focus ((intro wS hSw; (try dsimp only at hSw); go_simp); (try (with_reducible rfl)))
    simp only [Act.put, List.getElem_toArray, List.getElem_cons_zero, List.getElem_cons_succ, List.setIfInBounds_toArray, List.set_cons_zero, List.set_cons_succ]
    refine wpAnyH_take (i := 13) (v := ?_) rfl (by kernel_rfl) (by kernel_rfl) (by kernel_rfl) (fun _ _ _ h => h) (Or.inl ⟨by rfl, ?_⟩) (by assumption) ?_
    rotate_left
    focus ((intro wS hSw; (try dsimp only at hSw); go_simp); (try (with_reducible rfl)))
    simp only [Act.put, List.getElem_toArray, List.getElem_cons_zero, List.getElem_cons_succ, List.setIfInBounds_toArray, List.set_cons_zero, List.set_cons_succ]
    refine wpAnyH_take (i := 14) (v := ?_) rfl (by kernel_rfl) (by kernel_rfl) (by kernel_rfl) (fun _ _ _ h => h) (Or.inl ⟨by rfl, ?_⟩) (by assumption) ?_
    rotate_left
    focus ((intro wS hSw; (try dsimp only at hSw); go_simp); (try (with_reducible rfl)))
    simp only [Act.put, List.getElem_toArray, List.getElem_cons_zero, List.getElem_cons_succ, List.setIfInBounds_toArray, List.set_cons_zero, List.set_cons_succ]
    refine wpAnyH_take (i := 15) (v := ?_) rfl (by kernel_rfl) (by kernel_rfl) (by kernel_rfl) (fun _ _ _ h => h) (Or.inl ⟨by rfl, ?_⟩) (by assumption) ?_
    rotate_left
    focus ((intro wS hSw; (try dsimp only at hSw); go_simp); (try (with_reducible rfl)))
    simp only [Act.put, List.getElem_toArray, List.getElem_cons_zero, List.getElem_cons_succ, List.setIfInBounds_toArray, List.set_cons_zero, List.set_cons_succ]
    refine wpAnyH_take (i := 16) (v := ?_) rfl (by kernel_rfl) (by kernel_rfl) (by kernel_rfl) (fun _ _ _ h => h) (Or.inl ⟨by rfl, ?_⟩) (by assumption) ?_
    rotate_left
    focus ((intro wS hSw; (try dsimp only at hSw); go_simp); (try (with_reducible rfl)))
    simp only [Act.put, List.getElem_toArray, List.getElem_cons_zero, List.getElem_cons_succ, List.setIfInBounds_toArray, List.set_cons_zero, List.set_cons_succ]
    refine wpAnyH_take (i := 17) (v := ?_) rfl (by kernel_rfl) (by kernel_rfl) (by kernel_rfl) (fun _ _ _ h => h) (Or.inl ⟨by rfl, ?_⟩) (by assumption) ?_
    rotate_left
    focus ((intro wS hSw; (try dsimp only at hSw); go_simp); (try (with_reducible rfl)))
    simp only [Act.put, List.getElem_toArray, List.getElem_cons_zero, List.getElem_cons_succ, List.setIfInBounds_toArray, List.set_cons_zero, List.set_cons_succ]
    refine wpAnyH_take (i := 18) (v := ?_) rfl (by kernel_rfl) (by kernel_rfl) (by kernel_rfl) (fun _ _ _ h => h) (Or.inl ⟨by rfl, ?_⟩) (by assumption) ?_
    rotate_left
    focus ((intro wS hSw; (try dsimp only at hSw); go_simp); (try (with_reducible rfl)))
    simp only [Act.put, List.getElem_toArray, List.getElem_cons_zero, List.getElem_cons_succ, List.setIfInBounds_toArray, List.set_cons_zero, List.set_cons_succ]
    refine wpAnyH_take (i := 19) (v := ?_) rfl (by kernel_rfl) (by kernel_rfl) (by kernel_rfl) (fun _ _ _ h => h) (Or.inl ⟨by rfl, ?_⟩) (by assumption) ?_
    rotate_left
    focus ((intro wS hSw; (try dsimp only at hSw); go_simp); (try (with_reducible rfl)))
    simp only [Act.put, List.getElem_toArray, List.getElem_cons_zero, List.getElem_cons_succ, List.setIfInBounds_toArray, List.set_cons_zero, List.set_cons_succ]
    refine wpAnyH_take (i := 20) (v := ?_) rfl (by kernel_rfl) (by kernel_rfl) (by kernel_rfl) (fun _ _ _ h => h) (Or.inl ⟨by rfl, ?_⟩) (by assumption) ?_
    rotate_left
    focus ((intro wS hSw; (try dsimp only at hSw); go_simp); (try (with_reducible rfl)))
    simp only [Act.put, List.getElem_toArray, List.getElem_cons_zero, List.getElem_cons_succ, List.setIfInBounds_toArray, List.set_cons_zero, List.set_cons_succ]
    refine wpAnyH_done (by kernel_rfl) ?_ _
    clear hHeld
    go_wp2_with fail
    go_ret
    exact ⟨rfl, Below.onto HE1.out HB4.out⟩
def PAtPost (L : List Fo) (q : Wp) (y : Int) (w : World) (e : Ending) (w' : World) : Prop :=
  e = .returned (.tuple #[.int .i64 (if soP L q y = true then leftP L q y else 0), .bool (soP L q y)]) ∧ Below w.heap.size w w'
theorem spF0P (v0 v1 : Value) (w : World) : (Instr.field 61 (.agg #[v0, v1]) 0).run Try.prog w = .ok v0 w := by kernel_rfl
theorem pat_cases (wd f0 f1 a b l r m1 m2 : Int) (so : Bool) (hs : so = decide (wd ≤ f1 - f0 ∨ (b - a < wd ∧ l ≤ m1 ∧ m2 ≤ r))) :
    (decide (wd ≤ f1 - f0) = true ∧ so = true) ∨ (decide (wd ≤ f1 - f0) = false ∧ so = true ∧ decide (b - a < wd ∧ l ≤ m1 ∧ m2 ≤ r) = true) ∨ (decide (wd ≤ f1 - f0) = false ∧ so = false ∧ decide (b - a < wd ∧ l ≤ m1 ∧ m2 ≤ r) = false) := by
  by_cases h1 : wd ≤ f1 - f0
  · left; exact ⟨decide_eq_true h1, by rw [hs]; exact decide_eq_true (.inl h1)⟩
  · right
    by_cases h2 : b - a < wd ∧ l ≤ m1 ∧ m2 ≤ r
    · left; exact ⟨decide_eq_false h1, by rw [hs]; exact decide_eq_true (.inr h2), decide_eq_true h2⟩
    · right; exact ⟨decide_eq_false h1, by rw [hs]; exact decide_eq_false fun h => h.elim h1 h2, decide_eq_false h2⟩
set_option maxRecDepth 20000 in
set_option maxHeartbeats 4000000 in
theorem placeAt_any (L : List Fo) (q : Wp) (y : Int) (base sp : Nat) (w : World) (h : SpaceIs w base sp L) (hn : nearB L = true) (hl : L.length ≤ 100000) (hq : okWp q = true) (hy : -4503599627370496 ≤ y ∧ y ≤ 2251799813685248) :
    Calls Try.prog 101 #[.pointer (some ⟨sp, 0, none⟩), .agg #[.int .i64 q.s, .int .i64 q.c, .int .i64 q.a, .int .i64 q.b, .int .i64 q.wd, .int .i64 q.h, .int .i64 q.y], .int .i64 y] w (PAtPost L q y w) := by
  have hok : SpOk L := ⟨near_low hn, hl⟩
  have hsm : ∀ f ∈ L, smallF f = true := fun f hf => near_small (nearB_at hn f hf)
  obtain ⟨⟨ia, ib, iw, ih, iy⟩, i0⟩ := okWp_at hq
  have jw := iw
  unfold in48 at ia ib iw ih iy
  have hg := hgh_pos q.h
  have hg2 : hgh q.h ≤ 281474976710656 := by unfold hgh; omega
  have hrw := fun w => srows_any y q.h w (by omega) (by omega)
  have hfr := fun w h => free_any L q.a q.b y (y + hgh q.h) base sp w h hok (by unfold Mid; omega) (by unfold Mid; omega) (by unfold far; omega)
  have hbd := fun w h => bounds10_any L y (y + hgh q.h) base sp w h hok (by unfold Mid; omega) (by unfold Mid; omega) (by unfold far; omega)
  have hed := bnds_edge hsm y q.h
  have hst := fun l r w => sticks_any q l r w hq
  obtain ⟨sv, hsv⟩ : ∃ s, soP L q y = s := ⟨_, rfl⟩
  have hs1 : sv = decide (q.wd ≤ (freeS L q.a q.b y q.h).2 - (freeS L q.a q.b y q.h).1 ∨ (q.b - q.a < q.wd ∧ (bnds L y q.h).1 ≤ (atS q.s q.wd q.a q.b).1 ∧ (atS q.s q.wd q.a q.b).2 ≤ (bnds L y q.h).2)) := hsv.symm
  unfold SpanPost at hrw hfr hbd
  unfold PAtPost leftP
  rw [hsv]
  unfold freeS at hs1 ⊢
  unfold bnds at hed hs1 ⊢
  obtain ⟨yb, hyb⟩ : ∃ b, y + hgh q.h = b := ⟨_, rfl⟩
  rw [hyb] at hfr hbd hed hs1 ⊢
  simp only [hyb] at hrw
  generalize band L y yb = p at *
  obtain ⟨p1, p2⟩ := p
  simp only at hfr hbd hed hs1 ⊢
  obtain ⟨r1, hr1⟩ : ∃ r, max q.a p1 = r := ⟨_, rfl⟩
  obtain ⟨r2, hr2⟩ : ∃ r, min q.b p2 = r := ⟨_, rfl⟩
  rw [hr1, hr2] at hfr hs1 ⊢
  unfold far at hed
  have mr1 : Mid r1 := by unfold Mid; omega
  have mr2 : Mid r2 := by unfold Mid; omega
  have hpa := fun w => pat_any q r1 r2 w (by omega) (by omega) jw
  have hl1 := fun w => slen_any r1 r2 w mr1 mr2
  have hst := fun w => hst p1 p2 w
  unfold SpanPost at hpa
  generalize hm : atS q.s q.wd q.a q.b = m at *
  obtain ⟨m1, m2⟩ := m
  generalize atS q.s q.wd r1 r2 = z at *
  obtain ⟨z1, z2⟩ := z
  simp only at hpa hst hs1 ⊢
  have hcs := pat_cases q.wd r1 r2 q.a q.b p1 p2 m1 m2 sv hs1
  have hrl : IntKind.i64.wrap (r2 - r1) = r2 - r1 := by unfold Mid at mr1 mr2; rw [IntKind.wrap_i64]; omega
  obtain ⟨b0, hb0⟩ : ∃ b, w.heap.size = b := ⟨_, rfl⟩
  obtain ⟨W0, hW0⟩ : ∃ W, w.alloc (.cells #[.int .i64 q.s, .int .i64 q.c, .int .i64 q.a, .int .i64 q.b, .int .i64 q.wd, .int .i64 q.h, .int .i64 q.y] 90) = W := ⟨_, rfl⟩
  have r0 : W0.heap[b0]? = some (.cells #[.int .i64 q.s, .int .i64 q.c, .int .i64 q.a, .int .i64 q.b, .int .i64 q.wd, .int .i64 q.h, .int .i64 q.y] 90 (0, 0)) := by rw [← hW0, ← hb0]; exact heap_alloc_new w _
  have hB0 : Below w.heap.size w W0 := by rw [← hW0]; exact (Below.refl _ _).alloc (Nat.le_refl _) _
  have HS0 := Lib.hid (h.below hB0 (Nat.le_refl _))
  have HRW := Lib.hid hrw
  have HFR := Lib.hid hfr
  have HBD := Lib.hid hbd
  have HPA := Lib.hid hpa
  have HL1 := Lib.hid hl1
  have HST := Lib.hid hst
  have HCS := Lib.hid hcs
  have HW0 := Lib.hid hW0
  have HBB := Lib.hid hb0
  have HB0 := Lib.hid hB0
  have R0 := Lib.hid r0
  obtain ⟨x0, x1, x2, x3, x4, x5, x6⟩ := boxP r0
  clear hrw hfr hbd hpa hl1 hst hcs hW0 hb0 hB0 r0 h hn hl hq hok hsm hg hg2 hyb hr1 hr2 hs1 hsv hed mr1 mr2 jw i0 ia ib iw ih iy hm hy hrl
  obtain ⟨qs, qc, qa, qb, qw, qh, qy⟩ := q
  simp only at *
  go_enter Try.func101, Try.ntmps101
  go_wp2_with fail
  rw [HW0.out, HBB.out]
  go_wp2_with fail
  refine (HRW.out W0).mono ?_
  rintro e w1 ⟨rfl, hb1⟩
  have HS1 := Lib.hid (HS0.out.below hb1 (Nat.le_refl _))
  have hr0 := keepB R0.out hb1
  have HB1 := Lib.hid (Below.onto hb1 HB0.out)
  clear hb1 x0 x1 x2 x3 x4 x5 x6
  obtain ⟨W2, hW2⟩ : ∃ W, w1.alloc (.cells #[.int .i64 y, .int .i64 yb] 61) = W := ⟨_, rfl⟩
  obtain ⟨bR, hbR⟩ : ∃ b, w1.heap.size = b := ⟨_, rfl⟩
  have hb2 : Below w1.heap.size w1 W2 := by rw [← hW2]; exact (Below.refl _ _).alloc (Nat.le_refl _) _
  have g0 := keepB hr0 hb2
  have g1 : W2.heap[bR]? = some (.cells #[.int .i64 y, .int .i64 yb] 61 (0, 0)) := by rw [← hW2, ← hbR]; exact heap_alloc_new w1 _
  have HS2 := Lib.hid (HS1.out.below hb2 (Nat.le_refl _))
  have HB2 := Lib.hid (Below.onto hb2 HB1.out)
  have HW2 := Lib.hid hW2
  have HBR := Lib.hid hbR
  have G0 := Lib.hid g0
  have G1 := Lib.hid g1
  have hal : b0 < w1.heap.size := (Array.getElem?_eq_some_iff.1 hr0).1
  obtain ⟨x0, x1, x2, x3, x4, x5, x6⟩ := boxP hr0
  clear hr0 hW2 hbR hb2 g0 g1
  go_wp2_with (first
    | ((with_reducible refine store_new (dst := none) 61 (.tmp 8) (.tmp 13) w1 _ #[.int .i64 y, .int .i64 yb] 61 rfl ?_ ?_ ?_ ?_ ?_ ?_); rfl; rfl; exact spanInfoP; rfl; (simp [Value.oneCell'])))
  rw [HW2.out, HBR.out]
  refine (HFR.out W2 HS2.out).mono ?_
  rintro e w3 ⟨rfl, hb3⟩
  have HS3 := Lib.hid (HS2.out.below hb3 (Nat.le_refl _))
  have hr0 := keepB G0.out hb3
  have hr1 := keepB G1.out hb3
  have HB3 := Lib.hid (Below.onto hb3 HB2.out)
  clear hb3 x0 x1 x2 x3 x4 x5 x6 hal
  obtain ⟨W4, hW4⟩ : ∃ W, w3.alloc (.cells #[.int .i64 r1, .int .i64 r2] 61) = W := ⟨_, rfl⟩
  obtain ⟨bF, hbF⟩ : ∃ b, w3.heap.size = b := ⟨_, rfl⟩
  have hb4 : Below w3.heap.size w3 W4 := by rw [← hW4]; exact (Below.refl _ _).alloc (Nat.le_refl _) _
  have g0 := keepB hr0 hb4
  have g1 := keepB hr1 hb4
  have g2 : W4.heap[bF]? = some (.cells #[.int .i64 r1, .int .i64 r2] 61 (0, 0)) := by rw [← hW4, ← hbF]; exact heap_alloc_new w3 _
  have HS4 := Lib.hid (HS3.out.below hb4 (Nat.le_refl _))
  have HB4 := Lib.hid (Below.onto hb4 HB3.out)
  have HK : Hid (∀ w', Below W4.heap.size W4 w' → Below W4.heap.size W4 w' ∧ w'.cell? ⟨b0, 0, none⟩ = some (.int .i64 qs) ∧ w'.cell? ⟨b0, 1, none⟩ = some (.int .i64 qc) ∧ w'.cell? ⟨b0, 2, none⟩ = some (.int .i64 qa) ∧ w'.cell? ⟨b0, 3, none⟩ = some (.int .i64 qb) ∧ w'.cell? ⟨b0, 4, none⟩ = some (.int .i64 qw) ∧ w'.cell? ⟨b0, 5, none⟩ = some (.int .i64 qh) ∧ w'.cell? ⟨b0, 6, none⟩ = some (.int .i64 qy) ∧ w'.cell? ⟨bR, 0, none⟩ = some (.int .i64 y) ∧ w'.cell? ⟨bR, 1, none⟩ = some (.int .i64 yb) ∧ w'.cell? ⟨bF, 0, none⟩ = some (.int .i64 r1) ∧ w'.cell? ⟨bF, 1, none⟩ = some (.int .i64 r2)) := by
    intro w' hb
    obtain ⟨k0, k1, k2, k3, k4, k5, k6⟩ := boxP (keepB g0 hb)
    exact ⟨hb, k0, k1, k2, k3, k4, k5, k6, (box2 (keepB g1 hb)).1, (box2 (keepB g1 hb)).2, (box2 (keepB g2 hb)).1, (box2 (keepB g2 hb)).2⟩
  have HSK : Hid (∀ w', Below W4.heap.size W4 w' → SpaceIs w' base sp L) := fun w' hb => HS4.out.below hb (Nat.le_refl _)
  have HG0 := Lib.hid g0
  have HG2 := Lib.hid g2
  have HW4 := Lib.hid hW4
  have HBF := Lib.hid hbF
  clear hr0 hr1 hW4 hbF hb4 g0 g1 g2
  go_wp2_with (first
    | ((with_reducible refine store_new (dst := none) 61 (.tmp 9) (.tmp 18) w3 _ #[.int .i64 r1, .int .i64 r2] 61 rfl ?_ ?_ ?_ ?_ ?_ ?_); rfl; rfl; exact spanInfoP; rfl; (simp [Value.oneCell'])))
  rw [HW4.out, HBF.out]
  rcases HCS.out with ⟨d1, rfl⟩ | ⟨d1, rfl, d2⟩ | ⟨d1, rfl, d2⟩
  · refine wp_region_held_drew (S := (fun w' => Below W4.heap.size W4 w' ∧ w'.cell? ⟨b0, 0, none⟩ = some (.int .i64 qs) ∧ w'.cell? ⟨b0, 1, none⟩ = some (.int .i64 qc) ∧ w'.cell? ⟨b0, 2, none⟩ = some (.int .i64 qa) ∧ w'.cell? ⟨b0, 3, none⟩ = some (.int .i64 qb) ∧ w'.cell? ⟨b0, 4, none⟩ = some (.int .i64 qw) ∧ w'.cell? ⟨b0, 5, none⟩ = some (.int .i64 qh) ∧ w'.cell? ⟨b0, 6, none⟩ = some (.int .i64 qy) ∧ w'.cell? ⟨bR, 0, none⟩ = some (.int .i64 y) ∧ w'.cell? ⟨bR, 1, none⟩ = some (.int .i64 yb) ∧ w'.cell? ⟨bF, 0, none⟩ = some (.int .i64 r1) ∧ w'.cell? ⟨bF, 1, none⟩ = some (.int .i64 r2))) (by kernel_rfl) (HK.out _ ((Below.refl _ _).drew)) (fun hHeld => ?_)
    refine wpAnyH_take (i := 0) (v := ?_) rfl (by kernel_rfl) (by kernel_rfl) (by kernel_rfl) (fun _ _ _ h => h) (Or.inl ⟨by rfl, ?_⟩) (by assumption) ?_
    rotate_left
    focus ((intro wS hSw; (try dsimp only at hSw); go_simp); (try (with_reducible rfl)))
    simp only [Act.put, List.getElem_toArray, List.getElem_cons_zero, List.getElem_cons_succ, List.setIfInBounds_toArray, List.set_cons_zero, List.set_cons_succ]
    refine wpAnyH_take (i := 1) (v := ?_) rfl (by kernel_rfl) (by kernel_rfl) (by kernel_rfl) (fun _ _ _ h => h) (Or.inl ⟨by rfl, ?_⟩) (by assumption) ?_
    rotate_left
    focus ((intro wS hSw; (try dsimp only at hSw); go_simp); (try (with_reducible rfl)))
    simp only [Act.put, List.getElem_toArray, List.getElem_cons_zero, List.getElem_cons_succ, List.setIfInBounds_toArray, List.set_cons_zero, List.set_cons_succ]
    refine wpAnyH_take (i := 2) (v := ?_) rfl (by kernel_rfl) (by kernel_rfl) (by kernel_rfl) (fun _ _ _ h => h) (Or.inl ⟨by rfl, ?_⟩) (by assumption) ?_
    rotate_left
    focus ((intro wS hSw; (try dsimp only at hSw); go_simp); (try (with_reducible rfl)))
    simp only [Act.put, List.getElem_toArray, List.getElem_cons_zero, List.getElem_cons_succ, List.setIfInBounds_toArray, List.set_cons_zero, List.set_cons_succ]
    refine wpAnyH_ready (rs := [3]) (by kernel_rfl) (by simp) ?_
    refine AllReadyH.cons rfl (fun K hK => ?_) AllReadyH.nil
    go_simp
    refine (HL1.out _).mono ?_
    rintro e y1 ⟨rfl, hbx⟩
    have HE1 := Lib.hid (show Below W4.heap.size W4 y1 from Below.drewL hbx)
    clear hbx
    refine hK.out _ _ (HK.out _ HE1.out) (fun hHeld => ?_)
    clear hK K
    (try simp only [Act.put, List.getElem_toArray, List.getElem_cons_zero, List.getElem_cons_succ, List.setIfInBounds_toArray, List.set_cons_zero, List.set_cons_succ])
    refine wpAnyH_take (i := 4) (v := ?_) rfl (by kernel_rfl) (by kernel_rfl) (by kernel_rfl) (fun _ _ _ h => h) (Or.inl ⟨by rfl, ?_⟩) (by assumption) ?_
    rotate_left
    focus ((intro wS hSw; (try dsimp only at hSw); go_simp); (try (with_reducible rfl)))
    simp only [Act.put, List.getElem_toArray, List.getElem_cons_zero, List.getElem_cons_succ, List.setIfInBounds_toArray, List.set_cons_zero, List.set_cons_succ]
    refine wpAnyH_take (i := 5) (v := ?_) rfl (by kernel_rfl) (by kernel_rfl) (by kernel_rfl) (fun _ _ _ h => h) (Or.inl ⟨by rfl, ?_⟩) (by assumption) ?_
    rotate_left
    focus ((intro wS hSw; (try dsimp only at hSw); go_simp); (try (with_reducible rfl)))
    simp only [Act.put, List.getElem_toArray, List.getElem_cons_zero, List.getElem_cons_succ, List.setIfInBounds_toArray, List.set_cons_zero, List.set_cons_succ]
    refine wpAnyH_take (i := 6) (v := undef) rfl (by kernel_rfl) (by kernel_rfl) (by kernel_rfl) (fun _ _ _ h => h) (Or.inr ⟨by rfl, rfl⟩) (by assumption) ?_
    simp only [Act.put, List.getElem_toArray, List.getElem_cons_zero, List.getElem_cons_succ, List.setIfInBounds_toArray, List.set_cons_zero, List.set_cons_succ]
    refine wpAnyH_take (i := 7) (v := undef) rfl (by kernel_rfl) (by kernel_rfl) (by kernel_rfl) (fun _ _ _ h => h) (Or.inr ⟨by rfl, rfl⟩) (by assumption) ?_
    simp only [Act.put, List.getElem_toArray, List.getElem_cons_zero, List.getElem_cons_succ, List.setIfInBounds_toArray, List.set_cons_zero, List.set_cons_succ]
    refine wpAnyH_take (i := 8) (v := undef) rfl (by kernel_rfl) (by kernel_rfl) (by kernel_rfl) (fun _ _ _ h => h) (Or.inr ⟨by rfl, rfl⟩) (by assumption) ?_
    simp only [Act.put, List.getElem_toArray, List.getElem_cons_zero, List.getElem_cons_succ, List.setIfInBounds_toArray, List.set_cons_zero, List.set_cons_succ]
    refine wpAnyH_take (i := 9) (v := undef) rfl (by kernel_rfl) (by kernel_rfl) (by kernel_rfl) (fun _ _ _ h => h) (Or.inr ⟨by rfl, rfl⟩) (by assumption) ?_
    simp only [Act.put, List.getElem_toArray, List.getElem_cons_zero, List.getElem_cons_succ, List.setIfInBounds_toArray, List.set_cons_zero, List.set_cons_succ]
    refine wpAnyH_take (i := 10) (v := undef) rfl (by kernel_rfl) (by kernel_rfl) (by kernel_rfl) (fun _ _ _ h => h) (Or.inr ⟨by rfl, rfl⟩) (by assumption) ?_
    simp only [Act.put, List.getElem_toArray, List.getElem_cons_zero, List.getElem_cons_succ, List.setIfInBounds_toArray, List.set_cons_zero, List.set_cons_succ]
    refine wpAnyH_take (i := 11) (v := ?_) rfl (by kernel_rfl) (by kernel_rfl) (by kernel_rfl) (fun _ _ _ h => h) (Or.inl ⟨by rfl, ?_⟩) (by assumption) ?_
    rotate_left
    focus ((intro wS hSw; (try dsimp only at hSw); go_simp); (try (with_reducible rfl)))
    simp only [Act.put, List.getElem_toArray, List.getElem_cons_zero, List.getElem_cons_succ, List.setIfInBounds_toArray, List.set_cons_zero, List.set_cons_succ]
    refine wpAnyH_done (by kernel_rfl) ?_ _
    clear hHeld
    have HG := Lib.hid (boxP (keepB HG0.out HE1.out))
    obtain ⟨x0, x1, x2, x3, x4, x5, x6⟩ := HG.out
    obtain ⟨u0, u1⟩ := box2 (keepB HG2.out HE1.out)
    go_wp2_with fail
    refine (HPA.out _).mono ?_
    rintro e w9 ⟨rfl, hb9⟩
    have HB9 := Lib.hid (Below.onto hb9 (Below.onto HE1.out HB4.out))
    clear hb9 x0 x1 x2 x3 x4 x5 x6 u0 u1
    have hsf := spF0P (.int .i64 z1) (.int .i64 z2) w9
    go_wp2_with fail
    exact bodyPost_ret (v := .tuple #[.int .i64 z1, .bool true]) (by simp [results, Try.results101, go_sem]) rfl ⟨rfl, HB9.out⟩
  · rw [d2] at HST
    refine wp_region_held_drew (S := (fun w' => Below W4.heap.size W4 w' ∧ w'.cell? ⟨b0, 0, none⟩ = some (.int .i64 qs) ∧ w'.cell? ⟨b0, 1, none⟩ = some (.int .i64 qc) ∧ w'.cell? ⟨b0, 2, none⟩ = some (.int .i64 qa) ∧ w'.cell? ⟨b0, 3, none⟩ = some (.int .i64 qb) ∧ w'.cell? ⟨b0, 4, none⟩ = some (.int .i64 qw) ∧ w'.cell? ⟨b0, 5, none⟩ = some (.int .i64 qh) ∧ w'.cell? ⟨b0, 6, none⟩ = some (.int .i64 qy) ∧ w'.cell? ⟨bR, 0, none⟩ = some (.int .i64 y) ∧ w'.cell? ⟨bR, 1, none⟩ = some (.int .i64 yb) ∧ w'.cell? ⟨bF, 0, none⟩ = some (.int .i64 r1) ∧ w'.cell? ⟨bF, 1, none⟩ = some (.int .i64 r2))) (by kernel_rfl) (HK.out _ ((Below.refl _ _).drew)) (fun hHeld => ?_)
    refine wpAnyH_take (i := 0) (v := ?_) rfl (by kernel_rfl) (by kernel_rfl) (by kernel_rfl) (fun _ _ _ h => h) (Or.inl ⟨by rfl, ?_⟩) (by assumption) ?_
    rotate_left
    focus ((intro wS hSw; (try dsimp only at hSw); go_simp); (try (with_reducible rfl)))
    simp only [Act.put, List.getElem_toArray, List.getElem_cons_zero, List.getElem_cons_succ, List.setIfInBounds_toArray, List.set_cons_zero, List.set_cons_succ]
    refine wpAnyH_take (i := 1) (v := ?_) rfl (by kernel_rfl) (by kernel_rfl) (by kernel_rfl) (fun _ _ _ h => h) (Or.inl ⟨by rfl, ?_⟩) (by assumption) ?_
    rotate_left
    focus ((intro wS hSw; (try dsimp only at hSw); go_simp); (try (with_reducible rfl)))
    simp only [Act.put, List.getElem_toArray, List.getElem_cons_zero, List.getElem_cons_succ, List.setIfInBounds_toArray, List.set_cons_zero, List.set_cons_succ]
    refine wpAnyH_take (i := 2) (v := ?_) rfl (by kernel_rfl) (by kernel_rfl) (by kernel_rfl) (fun _ _ _ h => h) (Or.inl ⟨by rfl, ?_⟩) (by assumption) ?_
    rotate_left
    focus ((intro wS hSw; (try dsimp only at hSw); go_simp); (try (with_reducible rfl)))
    simp only [Act.put, List.getElem_toArray, List.getElem_cons_zero, List.getElem_cons_succ, List.setIfInBounds_toArray, List.set_cons_zero, List.set_cons_succ]
    refine wpAnyH_ready (rs := [3]) (by kernel_rfl) (by simp) ?_
    refine AllReadyH.cons rfl (fun K hK => ?_) AllReadyH.nil
    go_simp
    refine (HL1.out _).mono ?_
    rintro e y1 ⟨rfl, hbx⟩
    have HE1 := Lib.hid (show Below W4.heap.size W4 y1 from Below.drewL hbx)
    clear hbx
    refine hK.out _ _ (HK.out _ HE1.out) (fun hHeld => ?_)
    clear hK K
    (try simp only [Act.put, List.getElem_toArray, List.getElem_cons_zero, List.getElem_cons_succ, List.setIfInBounds_toArray, List.set_cons_zero, List.set_cons_succ])
    refine wpAnyH_take (i := 4) (v := ?_) rfl (by kernel_rfl) (by kernel_rfl) (by kernel_rfl) (fun _ _ _ h => h) (Or.inl ⟨by rfl, ?_⟩) (by assumption) ?_
    rotate_left
    focus ((intro wS hSw; (try dsimp only at hSw); go_simp); (try (with_reducible rfl)))
    simp only [Act.put, List.getElem_toArray, List.getElem_cons_zero, List.getElem_cons_succ, List.setIfInBounds_toArray, List.set_cons_zero, List.set_cons_succ]
    refine wpAnyH_take (i := 5) (v := ?_) rfl (by kernel_rfl) (by kernel_rfl) (by kernel_rfl) (fun _ _ _ h => h) (Or.inl ⟨by rfl, ?_⟩) (by assumption) ?_
    rotate_left
    focus ((intro wS hSw; (try dsimp only at hSw); go_simp); (try (with_reducible rfl)))
    simp only [Act.put, List.getElem_toArray, List.getElem_cons_zero, List.getElem_cons_succ, List.setIfInBounds_toArray, List.set_cons_zero, List.set_cons_succ]
    refine wpAnyH_take (i := 6) (v := ?_) rfl (by kernel_rfl) (by kernel_rfl) (by kernel_rfl) (fun _ _ _ h => h) (Or.inl ⟨by rfl, ?_⟩) (by assumption) ?_
    rotate_left
    focus ((intro wS hSw; (try dsimp only at hSw); go_simp); (try (with_reducible rfl)))
    simp only [Act.put, List.getElem_toArray, List.getElem_cons_zero, List.getElem_cons_succ, List.setIfInBounds_toArray, List.set_cons_zero, List.set_cons_succ]
    refine wpAnyH_take (i := 7) (v := ?_) rfl (by kernel_rfl) (by kernel_rfl) (by kernel_rfl) (fun _ _ _ h => h) (Or.inl ⟨by rfl, ?_⟩) (by assumption) ?_
    rotate_left
    focus ((intro wS hSw; (try dsimp only at hSw); go_simp); (try (with_reducible rfl)))
    simp only [Act.put, List.getElem_toArray, List.getElem_cons_zero, List.getElem_cons_succ, List.setIfInBounds_toArray, List.set_cons_zero, List.set_cons_succ]
    refine wpAnyH_take (i := 8) (v := ?_) rfl (by kernel_rfl) (by kernel_rfl) (by kernel_rfl) (fun _ _ _ h => h) (Or.inl ⟨by rfl, ?_⟩) (by assumption) ?_
    rotate_left
    focus ((intro wS hSw; (try dsimp only at hSw); go_simp); (try (with_reducible rfl)))
    simp only [Act.put, List.getElem_toArray, List.getElem_cons_zero, List.getElem_cons_succ, List.setIfInBounds_toArray, List.set_cons_zero, List.set_cons_succ]
    refine wpAnyH_ready (rs := [9]) (by kernel_rfl) (by simp) ?_
    refine AllReadyH.cons rfl (fun K hK => ?_) AllReadyH.nil
    go_simp
    refine (HBD.out _ (HSK.out _ HE1.out)).mono ?_
    rintro e y2 ⟨rfl, hbx⟩
    have HE2 := Lib.hid (Below.onto hbx HE1.out)
    clear hbx
    refine hK.out _ _ (HK.out _ HE2.out) (fun hHeld => ?_)
    clear hK K
    (try simp only [Act.put, List.getElem_toArray, List.getElem_cons_zero, List.getElem_cons_succ, List.setIfInBounds_toArray, List.set_cons_zero, List.set_cons_succ])
    refine wpAnyH_ready (rs := [10]) (by kernel_rfl) (by simp) ?_
    refine AllReadyH.cons rfl (fun K hK => ?_) AllReadyH.nil
    go_simp
    refine (HST.out _).mono ?_
    rintro e y3 ⟨rfl, hbx⟩
    have HE3 := Lib.hid (Below.onto hbx HE2.out)
    clear hbx
    refine hK.out _ _ (HK.out _ HE3.out) (fun hHeld => ?_)
    clear hK K
    (try simp only [Act.put, List.getElem_toArray, List.getElem_cons_zero, List.getElem_cons_succ, List.setIfInBounds_toArray, List.set_cons_zero, List.set_cons_succ])
    refine wpAnyH_take (i := 11) (v := ?_) rfl (by kernel_rfl) (by kernel_rfl) (by kernel_rfl) (fun _ _ _ h => h) (Or.inl ⟨by rfl, ?_⟩) (by assumption) ?_
    rotate_left
    focus ((intro wS hSw; (try dsimp only at hSw); go_simp); (try (with_reducible rfl)))
    simp only [Act.put, List.getElem_toArray, List.getElem_cons_zero, List.getElem_cons_succ, List.setIfInBounds_toArray, List.set_cons_zero, List.set_cons_succ]
    refine wpAnyH_done (by kernel_rfl) ?_ _
    clear hHeld
    have HG := Lib.hid (boxP (keepB HG0.out HE3.out))
    obtain ⟨x0, x1, x2, x3, x4, x5, x6⟩ := HG.out
    obtain ⟨u0, u1⟩ := box2 (keepB HG2.out HE3.out)
    go_wp2_with fail
    refine (HPA.out _).mono ?_
    rintro e w9 ⟨rfl, hb9⟩
    have HB9 := Lib.hid (Below.onto hb9 (Below.onto HE3.out HB4.out))
    clear hb9 x0 x1 x2 x3 x4 x5 x6 u0 u1
    have hsf := spF0P (.int .i64 z1) (.int .i64 z2) w9
    go_wp2_with fail
    exact bodyPost_ret (v := .tuple #[.int .i64 z1, .bool true]) (by simp [results, Try.results101, go_sem]) rfl ⟨rfl, HB9.out⟩
  · rw [d2] at HST
    refine wp_region_held_drew (S := (fun w' => Below W4.heap.size W4 w' ∧ w'.cell? ⟨b0, 0, none⟩ = some (.int .i64 qs) ∧ w'.cell? ⟨b0, 1, none⟩ = some (.int .i64 qc) ∧ w'.cell? ⟨b0, 2, none⟩ = some (.int .i64 qa) ∧ w'.cell? ⟨b0, 3, none⟩ = some (.int .i64 qb) ∧ w'.cell? ⟨b0, 4, none⟩ = some (.int .i64 qw) ∧ w'.cell? ⟨b0, 5, none⟩ = some (.int .i64 qh) ∧ w'.cell? ⟨b0, 6, none⟩ = some (.int .i64 qy) ∧ w'.cell? ⟨bR, 0, none⟩ = some (.int .i64 y) ∧ w'.cell? ⟨bR, 1, none⟩ = some (.int .i64 yb) ∧ w'.cell? ⟨bF, 0, none⟩ = some (.int .i64 r1) ∧ w'.cell? ⟨bF, 1, none⟩ = some (.int .i64 r2))) (by kernel_rfl) (HK.out _ ((Below.refl _ _).drew)) (fun hHeld => ?_)
    refine wpAnyH_take (i := 0) (v := ?_) rfl (by kernel_rfl) (by kernel_rfl) (by kernel_rfl) (fun _ _ _ h => h) (Or.inl ⟨by rfl, ?_⟩) (by assumption) ?_
    rotate_left
    focus ((intro wS hSw; (try dsimp only at hSw); go_simp); (try (with_reducible rfl)))
    simp only [Act.put, List.getElem_toArray, List.getElem_cons_zero, List.getElem_cons_succ, List.setIfInBounds_toArray, List.set_cons_zero, List.set_cons_succ]
    refine wpAnyH_take (i := 1) (v := ?_) rfl (by kernel_rfl) (by kernel_rfl) (by kernel_rfl) (fun _ _ _ h => h) (Or.inl ⟨by rfl, ?_⟩) (by assumption) ?_
    rotate_left
    focus ((intro wS hSw; (try dsimp only at hSw); go_simp); (try (with_reducible rfl)))
    simp only [Act.put, List.getElem_toArray, List.getElem_cons_zero, List.getElem_cons_succ, List.setIfInBounds_toArray, List.set_cons_zero, List.set_cons_succ]
    refine wpAnyH_take (i := 2) (v := ?_) rfl (by kernel_rfl) (by kernel_rfl) (by kernel_rfl) (fun _ _ _ h => h) (Or.inl ⟨by rfl, ?_⟩) (by assumption) ?_
    rotate_left
    focus ((intro wS hSw; (try dsimp only at hSw); go_simp); (try (with_reducible rfl)))
    simp only [Act.put, List.getElem_toArray, List.getElem_cons_zero, List.getElem_cons_succ, List.setIfInBounds_toArray, List.set_cons_zero, List.set_cons_succ]
    refine wpAnyH_ready (rs := [3]) (by kernel_rfl) (by simp) ?_
    refine AllReadyH.cons rfl (fun K hK => ?_) AllReadyH.nil
    go_simp
    refine (HL1.out _).mono ?_
    rintro e y1 ⟨rfl, hbx⟩
    have HE1 := Lib.hid (show Below W4.heap.size W4 y1 from Below.drewL hbx)
    clear hbx
    refine hK.out _ _ (HK.out _ HE1.out) (fun hHeld => ?_)
    clear hK K
    (try simp only [Act.put, List.getElem_toArray, List.getElem_cons_zero, List.getElem_cons_succ, List.setIfInBounds_toArray, List.set_cons_zero, List.set_cons_succ])
    refine wpAnyH_take (i := 4) (v := ?_) rfl (by kernel_rfl) (by kernel_rfl) (by kernel_rfl) (fun _ _ _ h => h) (Or.inl ⟨by rfl, ?_⟩) (by assumption) ?_
    rotate_left
    focus ((intro wS hSw; (try dsimp only at hSw); go_simp); (try (with_reducible rfl)))
    simp only [Act.put, List.getElem_toArray, List.getElem_cons_zero, List.getElem_cons_succ, List.setIfInBounds_toArray, List.set_cons_zero, List.set_cons_succ]
    refine wpAnyH_take (i := 5) (v := ?_) rfl (by kernel_rfl) (by kernel_rfl) (by kernel_rfl) (fun _ _ _ h => h) (Or.inl ⟨by rfl, ?_⟩) (by assumption) ?_
    rotate_left
    focus ((intro wS hSw; (try dsimp only at hSw); go_simp); (try (with_reducible rfl)))
    simp only [Act.put, List.getElem_toArray, List.getElem_cons_zero, List.getElem_cons_succ, List.setIfInBounds_toArray, List.set_cons_zero, List.set_cons_succ]
    refine wpAnyH_take (i := 6) (v := ?_) rfl (by kernel_rfl) (by kernel_rfl) (by kernel_rfl) (fun _ _ _ h => h) (Or.inl ⟨by rfl, ?_⟩) (by assumption) ?_
    rotate_left
    focus ((intro wS hSw; (try dsimp only at hSw); go_simp); (try (with_reducible rfl)))
    simp only [Act.put, List.getElem_toArray, List.getElem_cons_zero, List.getElem_cons_succ, List.setIfInBounds_toArray, List.set_cons_zero, List.set_cons_succ]
    refine wpAnyH_take (i := 7) (v := ?_) rfl (by kernel_rfl) (by kernel_rfl) (by kernel_rfl) (fun _ _ _ h => h) (Or.inl ⟨by rfl, ?_⟩) (by assumption) ?_
    rotate_left
    focus ((intro wS hSw; (try dsimp only at hSw); go_simp); (try (with_reducible rfl)))
    simp only [Act.put, List.getElem_toArray, List.getElem_cons_zero, List.getElem_cons_succ, List.setIfInBounds_toArray, List.set_cons_zero, List.set_cons_succ]
    refine wpAnyH_take (i := 8) (v := ?_) rfl (by kernel_rfl) (by kernel_rfl) (by kernel_rfl) (fun _ _ _ h => h) (Or.inl ⟨by rfl, ?_⟩) (by assumption) ?_
    rotate_left
    focus ((intro wS hSw; (try dsimp only at hSw); go_simp); (try (with_reducible rfl)))
    simp only [Act.put, List.getElem_toArray, List.getElem_cons_zero, List.getElem_cons_succ, List.setIfInBounds_toArray, List.set_cons_zero, List.set_cons_succ]
    refine wpAnyH_ready (rs := [9]) (by kernel_rfl) (by simp) ?_
    refine AllReadyH.cons rfl (fun K hK => ?_) AllReadyH.nil
    go_simp
    refine (HBD.out _ (HSK.out _ HE1.out)).mono ?_
    rintro e y2 ⟨rfl, hbx⟩
    have HE2 := Lib.hid (Below.onto hbx HE1.out)
    clear hbx
    refine hK.out _ _ (HK.out _ HE2.out) (fun hHeld => ?_)
    clear hK K
    (try simp only [Act.put, List.getElem_toArray, List.getElem_cons_zero, List.getElem_cons_succ, List.setIfInBounds_toArray, List.set_cons_zero, List.set_cons_succ])
    refine wpAnyH_ready (rs := [10]) (by kernel_rfl) (by simp) ?_
    refine AllReadyH.cons rfl (fun K hK => ?_) AllReadyH.nil
    go_simp
    refine (HST.out _).mono ?_
    rintro e y3 ⟨rfl, hbx⟩
    have HE3 := Lib.hid (Below.onto hbx HE2.out)
    clear hbx
    refine hK.out _ _ (HK.out _ HE3.out) (fun hHeld => ?_)
    clear hK K
    (try simp only [Act.put, List.getElem_toArray, List.getElem_cons_zero, List.getElem_cons_succ, List.setIfInBounds_toArray, List.set_cons_zero, List.set_cons_succ])
    refine wpAnyH_take (i := 11) (v := ?_) rfl (by kernel_rfl) (by kernel_rfl) (by kernel_rfl) (fun _ _ _ h => h) (Or.inl ⟨by rfl, ?_⟩) (by assumption) ?_
    rotate_left
    focus ((intro wS hSw; (try dsimp only at hSw); go_simp); (try (with_reducible rfl)))
    simp only [Act.put, List.getElem_toArray, List.getElem_cons_zero, List.getElem_cons_succ, List.setIfInBounds_toArray, List.set_cons_zero, List.set_cons_succ]
    refine wpAnyH_done (by kernel_rfl) ?_ _
    clear hHeld
    go_wp2_with fail
    exact bodyPost_ret (v := .tuple #[.int .i64 0, .bool false]) (by simp [results, Try.results101, go_sem]) rfl ⟨rfl, Below.onto HE3.out HB4.out⟩
end Go.Proofs.Ytecojcdmigmnhaa
