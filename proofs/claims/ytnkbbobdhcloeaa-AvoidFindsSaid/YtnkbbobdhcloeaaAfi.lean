/- The law AvoidFinds. -/
import Derived.Test.YtnkbbobdhcloeaaAh
import Derived.Test.YtnkbbobdhcloeaaAvf
namespace Go.Proofs.Ytnkbbobdhcloeaa
set_option linter.unusedSimpArgs false
set_option linter.unusedVariables false
open Go.RowKit
set_option maxRecDepth 20000 in
set_option maxHeartbeats 8000000 in
theorem avoidFinds_any (L : List Fo) (v : Value) (q : Wa) (y : Int) (w : World) (h : IsFos w v L) (hn : L.length ≤ maxLen) : Calls Try.prog 8 #[v, .agg #[.int .i64 q.a, .int .i64 q.b, .int .i64 q.wd, .int .i64 q.h, .int .i64 q.y], .int .i64 y] w fun e w' => e = .returned (.bool true) ∧ Below w.heap.size w w' := by
  obtain ⟨A, cap0, rfl, hx1, hx2⟩ := id h
  clear hx1 hx2
  obtain ⟨W0, hW0⟩ : ∃ W, w.alloc (.cells #[.int .i64 q.a, .int .i64 q.b, .int .i64 q.wd, .int .i64 q.h, .int .i64 q.y] 24) = W := ⟨_, rfl⟩
  obtain ⟨bq, hbq⟩ : ∃ b, w.heap.size = b := ⟨_, rfl⟩
  have hv0 : W0.heap[bq]? = some (.cells #[.int .i64 q.a, .int .i64 q.b, .int .i64 q.wd, .int .i64 q.h, .int .i64 q.y] 24 (0, 0)) := by rw [← hW0, ← hbq]; exact heap_alloc_new w _
  have hb0 : Below w.heap.size w W0 := by rw [← hW0]; exact (Below.refl _ _).alloc (Nat.le_refl _) _
  have hh0 := h.below hb0 (Nat.le_refl _)
  have HW0 := Lib.hid hW0
  have HBQ := Lib.hid hbq
  have HV0 := Lib.hid hv0
  have HB0 := Lib.hid hb0
  have HH0 := Lib.hid hh0
  clear hW0 hbq hv0 hb0 hh0 h
  have hri := fun w => right12_any q w
  by_cases hnm : nearB L = true ∧ (L.length : Int) ≤ 30
  · have hl : L.length ≤ 100000 := by have := hnm.2; omega
    have hbg := fun w h => begin12_yes (.slice A L.length cap0) L 30 w h hl hnm.1 hnm.2
    unfold BegSpPost at hbg
    have HBG := Lib.hid hbg
    have HNB := Lib.hid hnm.1
    have HNL := Lib.hid hn
    have HLL := Lib.hid hl
    clear hbg hnm hn hl
    cases hq : okWa q with
    | false =>
      rw [hq] at hri
      have HRI := Lib.hid hri
      clear hri hq
      go_enter Try.func8, Try.ntmps8
      go_wp2_with fail
      rw [HW0.out, HBQ.out]
      refine (HBG.out _ HH0.out).mono ?_
      rintro e w1 ⟨sp, rfl, hs1, hb1⟩
      have HS1 := Lib.hid hs1
      have HB1 := Lib.hid hb1
      clear hb1 hs1
      go_wp2_with fail
      refine (speaks12_any _).mono ?_
      rintro e w2 ⟨rfl, hb2⟩
      have HS2 := Lib.hid (HS1.out.below hb2 (Nat.le_refl _))
      have HB2 := Lib.hid (Below.onto hb2 HB1.out)
      obtain ⟨x0, x1, x2, x3, x4⟩ := box5 (blk_keep HV0.out HB2.out)
      clear hb2
      go_wp2_with fail
      refine (HRI.out _).mono ?_
      rintro e w3 ⟨rfl, hb3⟩
      have HS3 := Lib.hid (HS2.out.below hb3 (Nat.le_refl _))
      have HB3 := Lib.hid (Below.onto hb3 HB2.out)
      clear hb3 x0 x1 x2 x3 x4
      obtain ⟨x0, x1, x2, x3, x4⟩ := box5 (blk_keep HV0.out HB3.out)
      clear x0 x1 x2 x3 x4
      go_wp2_with fail
      refine (speaks12_any _).mono ?_
      rintro e w4 ⟨rfl, hb4⟩
      have HB4 := Lib.hid (Below.onto hb4 HB3.out)
      clear hb4
      go_wp2_with fail
      go_ret
      exact ⟨rfl, Below.onto HB4.out HB0.out⟩
    | true =>
      rw [hq] at hri
      have HRI := Lib.hid hri
      have HQ := Lib.hid hq
      clear hri hq
      by_cases hyy : 281474976710656 < y
      · have hdy := decide_eq_true hyy
        clear hyy
        go_enter Try.func8, Try.ntmps8
        go_wp2_with fail
        rw [HW0.out, HBQ.out]
        refine (HBG.out _ HH0.out).mono ?_
        rintro e w1 ⟨sp, rfl, hs1, hb1⟩
        have HS1 := Lib.hid hs1
        have HB1 := Lib.hid hb1
        clear hb1 hs1
        go_wp2_with fail
        refine (speaks12_any _).mono ?_
        rintro e w2 ⟨rfl, hb2⟩
        have HS2 := Lib.hid (HS1.out.below hb2 (Nat.le_refl _))
        have HB2 := Lib.hid (Below.onto hb2 HB1.out)
        obtain ⟨x0, x1, x2, x3, x4⟩ := box5 (blk_keep HV0.out HB2.out)
        clear hb2
        go_wp2_with fail
        refine (HRI.out _).mono ?_
        rintro e w3 ⟨rfl, hb3⟩
        have HS3 := Lib.hid (HS2.out.below hb3 (Nat.le_refl _))
        have HB3 := Lib.hid (Below.onto hb3 HB2.out)
        clear hb3 x0 x1 x2 x3 x4
        obtain ⟨x0, x1, x2, x3, x4⟩ := box5 (blk_keep HV0.out HB3.out)
        go_wp2_with fail
        refine (speaks12_any _).mono ?_
        rintro e w4 ⟨rfl, hb4⟩
        have HB4 := Lib.hid (Below.onto hb4 HB3.out)
        clear hb4
        go_wp2_with fail
        go_ret
        exact ⟨rfl, Below.onto HB4.out HB0.out⟩
      by_cases hyz : y < -281474976710656
      · have hdy := decide_eq_false hyy
        have hdz := decide_eq_true hyz
        clear hyy hyz
        go_enter Try.func8, Try.ntmps8
        go_wp2_with fail
        rw [HW0.out, HBQ.out]
        refine (HBG.out _ HH0.out).mono ?_
        rintro e w1 ⟨sp, rfl, hs1, hb1⟩
        have HS1 := Lib.hid hs1
        have HB1 := Lib.hid hb1
        clear hb1 hs1
        go_wp2_with fail
        refine (speaks12_any _).mono ?_
        rintro e w2 ⟨rfl, hb2⟩
        have HS2 := Lib.hid (HS1.out.below hb2 (Nat.le_refl _))
        have HB2 := Lib.hid (Below.onto hb2 HB1.out)
        obtain ⟨x0, x1, x2, x3, x4⟩ := box5 (blk_keep HV0.out HB2.out)
        clear hb2
        go_wp2_with fail
        refine (HRI.out _).mono ?_
        rintro e w3 ⟨rfl, hb3⟩
        have HS3 := Lib.hid (HS2.out.below hb3 (Nat.le_refl _))
        have HB3 := Lib.hid (Below.onto hb3 HB2.out)
        clear hb3 x0 x1 x2 x3 x4
        obtain ⟨x0, x1, x2, x3, x4⟩ := box5 (blk_keep HV0.out HB3.out)
        go_wp2_with fail
        refine (speaks12_any _).mono ?_
        rintro e w4 ⟨rfl, hb4⟩
        have HB4 := Lib.hid (Below.onto hb4 HB3.out)
        clear hb4
        go_wp2_with fail
        go_ret
        exact ⟨rfl, Below.onto HB4.out HB0.out⟩
      have hdy := decide_eq_false hyy
      have hdz := decide_eq_false hyz
      have hof := fun w => of12_any q w
      have hat := fun base sp w h => at_any12 L q y base sp w h HNB.out HLL.out HQ.out (by omega)
      have hra := fun w h => rat12_any L (.slice A L.length cap0) q y w h HNL.out (fun f hf => near_small (nearB_at HNB.out f hf)) HQ.out (by omega)
      have hfd := fun base sp w h => find_any12 L q base sp w h HNB.out HLL.out HQ.out
      have hrf := fun w h => rfind_any12 L (.slice A L.length cap0) q w h HNL.out HNB.out HQ.out
      have hfl := fun base sp w h => floats_any L base sp w h (by have := HLL.out; omega)
      unfold AtPost at hat hra
      unfold FindPost at hfd hrf
      unfold FloatsPost at hfl
      obtain ⟨n, hn0⟩ : ∃ n, (if soW L q y = true then leftA L q y else 0) = n := ⟨_, rfl⟩
      rw [hn0] at hat hra
      obtain ⟨so, hso⟩ : ∃ n, soW L q y = n := ⟨_, rfl⟩
      rw [hso] at hat hra
      obtain ⟨tp, htp⟩ : ∃ n, topA L q = n := ⟨_, rfl⟩
      rw [htp] at hfd hrf
      obtain ⟨lv, hlv⟩ : ∃ n, leftA L q tp = n := ⟨_, rfl⟩
      rw [hlv] at hfd hrf
      have ho2 := fun w => of02_any lv tp (lv + q.wd) (tp + q.h) w
      have HOF := Lib.hid hof
      have HAT := Lib.hid hat
      have HRA := Lib.hid hra
      have HFD := Lib.hid hfd
      have HRF := Lib.hid hrf
      have HFL := Lib.hid hfl
      have HO2 := Lib.hid ho2
      clear hof hat hra hfd hrf hfl ho2 hn0 hso htp hlv hyy hyz
      go_enter Try.func8, Try.ntmps8
      go_wp2_with fail
      rw [HW0.out, HBQ.out]
      refine (HBG.out _ HH0.out).mono ?_
      rintro e w1 ⟨sp, rfl, hs1, hb1⟩
      have HS1 := Lib.hid hs1
      have HB1 := Lib.hid hb1
      clear hb1 hs1
      go_wp2_with fail
      refine (speaks12_any _).mono ?_
      rintro e w2 ⟨rfl, hb2⟩
      have HS2 := Lib.hid (HS1.out.below hb2 (Nat.le_refl _))
      have HB2 := Lib.hid (Below.onto hb2 HB1.out)
      obtain ⟨x0, x1, x2, x3, x4⟩ := box5 (blk_keep HV0.out HB2.out)
      clear hb2
      go_wp2_with fail
      refine (HRI.out _).mono ?_
      rintro e w3 ⟨rfl, hb3⟩
      have HS3 := Lib.hid (HS2.out.below hb3 (Nat.le_refl _))
      have HB3 := Lib.hid (Below.onto hb3 HB2.out)
      clear hb3 x0 x1 x2 x3 x4
      obtain ⟨x0, x1, x2, x3, x4⟩ := box5 (blk_keep HV0.out HB3.out)
      go_wp2_with fail
      refine (HOF.out _).mono ?_
      rintro e w4 ⟨rfl, hb4⟩
      have HS4 := Lib.hid (HS3.out.below hb4 (Nat.le_refl _))
      have HB4 := Lib.hid (Below.onto hb4 HB3.out)
      clear hb4 x0 x1 x2 x3 x4
      go_wp2_with fail
      refine (HAT.out _ sp w4 HS4.out).mono ?_
      rintro e w5 ⟨rfl, hb5⟩
      have HS5 := Lib.hid (HS4.out.below hb5 (Nat.le_refl _))
      have HB5 := Lib.hid (Below.onto hb5 HB4.out)
      clear hb5
      obtain ⟨x0, x1, x2, x3, x4⟩ := box5 (blk_keep HV0.out HB5.out)
      have HF5 := Lib.hid (HH0.out.below HB5.out (Nat.le_refl _))
      go_wp2_with fail
      refine (HRA.out w5 HF5.out).mono ?_
      rintro e x7 ⟨rfl, hb6⟩
      have HS7 := Lib.hid (HS5.out.below hb6 (Nat.le_refl _))
      have HF7 := Lib.hid (HF5.out.below hb6 (Nat.le_refl _))
      have HB7 := Lib.hid (Below.onto hb6 HB5.out)
      clear hb6 x0 x1 x2 x3 x4
      have HV7 := Lib.hid (blk_keep HV0.out HB7.out)
      have HSK : Hid (∀ w', Below x7.heap.size x7 w' → SpaceIs w' W0.heap.size sp L) := fun w' hb => HS7.out.below hb (Nat.le_refl _)
      have HFK : Hid (∀ w', Below x7.heap.size x7 w' → IsFos w' (.slice A L.length cap0) L) := fun w' hb => HF7.out.below hb (Nat.le_refl _)
      have HK : Hid (∀ w', Below x7.heap.size x7 w' → Below x7.heap.size x7 w' ∧ w'.cell? ⟨bq, 0, none⟩ = some (.int .i64 q.a) ∧ w'.cell? ⟨bq, 1, none⟩ = some (.int .i64 q.b) ∧ w'.cell? ⟨bq, 2, none⟩ = some (.int .i64 q.wd) ∧ w'.cell? ⟨bq, 3, none⟩ = some (.int .i64 q.h) ∧ w'.cell? ⟨bq, 4, none⟩ = some (.int .i64 q.y)) := fun w' hb => ⟨hb, box5 (blk_keep HV7.out hb)⟩
      clear HS1 HS2 HS3 HS4 HS5 HF5 HB1 HB2 HB3 HB4 HB5
      go_wp2_with fail
      /- GENFINDS -/
      refine wp_region_held_drew (S := (fun w' => Below x7.heap.size x7 w' ∧ w'.cell? ⟨bq, 0, none⟩ = some (.int .i64 q.a) ∧ w'.cell? ⟨bq, 1, none⟩ = some (.int .i64 q.b) ∧ w'.cell? ⟨bq, 2, none⟩ = some (.int .i64 q.wd) ∧ w'.cell? ⟨bq, 3, none⟩ = some (.int .i64 q.h) ∧ w'.cell? ⟨bq, 4, none⟩ = some (.int .i64 q.y))) (by kernel_rfl) (HK.out _ ((Below.refl _ _).drew)) (fun hHeld => ?_)
      refine wpAnyH_take (i := 0) (v := ?_) rfl (by kernel_rfl) (by kernel_rfl) (by kernel_rfl) (fun _ _ _ h => h) (Or.inl ⟨by rfl, ?_⟩) (by assumption) ?_
      rotate_left
      focus ((intro wS hSw; (try dsimp only at hSw); go_simp); (try (with_reducible rfl)))
      simp only [Act.put, List.getElem_toArray, List.getElem_cons_zero, List.getElem_cons_succ, List.setIfInBounds_toArray, List.set_cons_zero, List.set_cons_succ]
      refine wpAnyH_take (i := 1) (v := ?_) rfl (by kernel_rfl) (by kernel_rfl) (by kernel_rfl) (fun _ _ _ h => h) (Or.inl ⟨by rfl, ?_⟩) (by assumption) ?_
      rotate_left
      focus ((intro wS hSw; (try dsimp only at hSw); go_simp); (try (with_reducible rfl)))
      simp only [Act.put, List.getElem_toArray, List.getElem_cons_zero, List.getElem_cons_succ, List.setIfInBounds_toArray, List.set_cons_zero, List.set_cons_succ]
      refine wpAnyH_take (i := 2) (v := ?_) rfl (by kernel_rfl) (by kernel_rfl) (by kernel_rfl) (fun _ _ _ h => h) (Or.inl ⟨by rfl, ?_⟩) (by assumption) ?_
      rotate_left
      focus ((intro wS hSw; (try dsimp only at hSw); go_simp); (try (with_reducible rfl)))
      simp only [Act.put, List.getElem_toArray, List.getElem_cons_zero, List.getElem_cons_succ, List.setIfInBounds_toArray, List.set_cons_zero, List.set_cons_succ]
      refine wpAnyH_take (i := 3) (v := ?_) rfl (by kernel_rfl) (by kernel_rfl) (by kernel_rfl) (fun _ _ _ h => h) (Or.inl ⟨by rfl, ?_⟩) (by assumption) ?_
      rotate_left
      focus ((intro wS hSw; (try dsimp only at hSw); go_simp); (try (with_reducible rfl)))
      simp only [Act.put, List.getElem_toArray, List.getElem_cons_zero, List.getElem_cons_succ, List.setIfInBounds_toArray, List.set_cons_zero, List.set_cons_succ]
      refine wpAnyH_take (i := 4) (v := ?_) rfl (by kernel_rfl) (by kernel_rfl) (by kernel_rfl) (fun _ _ _ h => h) (Or.inl ⟨by rfl, ?_⟩) (by assumption) ?_
      rotate_left
      focus ((intro wS hSw; (try dsimp only at hSw); go_simp); (try (with_reducible rfl)))
      simp only [Act.put, List.getElem_toArray, List.getElem_cons_zero, List.getElem_cons_succ, List.setIfInBounds_toArray, List.set_cons_zero, List.set_cons_succ]
      refine wpAnyH_take (i := 5) (v := ?_) rfl (by kernel_rfl) (by kernel_rfl) (by kernel_rfl) (fun _ _ _ h => h) (Or.inl ⟨by rfl, ?_⟩) (by assumption) ?_
      rotate_left
      focus ((intro wS hSw; (try dsimp only at hSw); go_simp); (try (with_reducible rfl)))
      simp only [Act.put, List.getElem_toArray, List.getElem_cons_zero, List.getElem_cons_succ, List.setIfInBounds_toArray, List.set_cons_zero, List.set_cons_succ]
      refine wpAnyH_take (i := 6) (v := ?_) rfl (by kernel_rfl) (by kernel_rfl) (by kernel_rfl) (fun _ _ _ h => h) (Or.inl ⟨by rfl, ?_⟩) (by assumption) ?_
      rotate_left
      focus ((intro wS hSw; (try dsimp only at hSw); go_simp); (try (with_reducible rfl)))
      simp only [Act.put, List.getElem_toArray, List.getElem_cons_zero, List.getElem_cons_succ, List.setIfInBounds_toArray, List.set_cons_zero, List.set_cons_succ]
      refine wpAnyH_take (i := 7) (v := ?_) rfl (by kernel_rfl) (by kernel_rfl) (by kernel_rfl) (fun _ _ _ h => h) (Or.inl ⟨by rfl, ?_⟩) (by assumption) ?_
      rotate_left
      focus ((intro wS hSw; (try dsimp only at hSw); go_simp); (try (with_reducible rfl)))
      simp only [Act.put, List.getElem_toArray, List.getElem_cons_zero, List.getElem_cons_succ, List.setIfInBounds_toArray, List.set_cons_zero, List.set_cons_succ]
      refine wpAnyH_take (i := 8) (v := ?_) rfl (by kernel_rfl) (by kernel_rfl) (by kernel_rfl) (fun _ _ _ h => h) (Or.inl ⟨by rfl, ?_⟩) (by assumption) ?_
      rotate_left
      focus ((intro wS hSw; (try dsimp only at hSw); go_simp); (try (with_reducible rfl)))
      simp only [Act.put, List.getElem_toArray, List.getElem_cons_zero, List.getElem_cons_succ, List.setIfInBounds_toArray, List.set_cons_zero, List.set_cons_succ]
      refine wpAnyH_take (i := 9) (v := ?_) rfl (by kernel_rfl) (by kernel_rfl) (by kernel_rfl) (fun _ _ _ h => h) (Or.inl ⟨by rfl, ?_⟩) (by assumption) ?_
      rotate_left
      focus ((intro wS hSw; (try dsimp only at hSw); go_simp); (try (with_reducible rfl)))
      simp only [Act.put, List.getElem_toArray, List.getElem_cons_zero, List.getElem_cons_succ, List.setIfInBounds_toArray, List.set_cons_zero, List.set_cons_succ]
      refine wpAnyH_take (i := 10) (v := ?_) rfl (by kernel_rfl) (by kernel_rfl) (by kernel_rfl) (fun _ _ _ h => h) (Or.inl ⟨by rfl, ?_⟩) (by assumption) ?_
      rotate_left
      focus ((intro wS hSw; (try dsimp only at hSw); go_simp); (try (with_reducible rfl)))
      simp only [Act.put, List.getElem_toArray, List.getElem_cons_zero, List.getElem_cons_succ, List.setIfInBounds_toArray, List.set_cons_zero, List.set_cons_succ]
      refine wpAnyH_take (i := 13) (v := ?_) rfl (by kernel_rfl) (by kernel_rfl) (by kernel_rfl) (fun _ _ _ h => h) (Or.inl ⟨by rfl, ?_⟩) (by assumption) ?_
      rotate_left
      focus ((intro wS hSw; (try dsimp only at hSw); go_simp); (try (with_reducible rfl)))
      simp only [Act.put, List.getElem_toArray, List.getElem_cons_zero, List.getElem_cons_succ, List.setIfInBounds_toArray, List.set_cons_zero, List.set_cons_succ]
      refine wpAnyH_take (i := 14) (v := ?_) rfl (by kernel_rfl) (by kernel_rfl) (by kernel_rfl) (fun _ _ _ h => h) (Or.inl ⟨by rfl, ?_⟩) (by assumption) ?_
      rotate_left
      focus ((intro wS hSw; (try dsimp only at hSw); go_simp); (try (with_reducible rfl)))
      simp only [Act.put, List.getElem_toArray, List.getElem_cons_zero, List.getElem_cons_succ, List.setIfInBounds_toArray, List.set_cons_zero, List.set_cons_succ]
      refine wpAnyH_ready (rs := [11]) (by kernel_rfl) (by simp) ?_
      refine AllReadyH.cons rfl (fun K hK => ?_) AllReadyH.nil
      go_simp
      refine (HOF.out _).mono ?_
      rintro e y1 ⟨rfl, hbx⟩
      have HE1 := Lib.hid (show Below x7.heap.size x7 y1 from Below.drewL hbx)
      clear hbx
      refine hK.out _ _ (HK.out _ HE1.out) (fun hHeld => ?_)
      clear hK K
      (try simp only [Act.put, List.getElem_toArray, List.getElem_cons_zero, List.getElem_cons_succ, List.setIfInBounds_toArray, List.set_cons_zero, List.set_cons_succ])
      refine wpAnyH_ready (rs := [12]) (by kernel_rfl) (by simp) ?_
      refine AllReadyH.cons rfl (fun K hK => ?_) AllReadyH.nil
      go_simp
      refine (HFD.out _ sp _ (HSK.out _ HE1.out)).mono ?_
      rintro e y2 ⟨rfl, hbx⟩
      have HE2 := Lib.hid (Below.onto hbx HE1.out)
      clear hbx
      refine hK.out _ _ (HK.out _ HE2.out) (fun hHeld => ?_)
      clear hK K
      (try simp only [Act.put, List.getElem_toArray, List.getElem_cons_zero, List.getElem_cons_succ, List.setIfInBounds_toArray, List.set_cons_zero, List.set_cons_succ])
      refine wpAnyH_ready (rs := [15]) (by kernel_rfl) (by simp) ?_
      refine AllReadyH.cons rfl (fun K hK => ?_) AllReadyH.nil
      go_simp
      refine (HRF.out _ (HFK.out _ HE2.out)).mono ?_
      rintro e y3 ⟨rfl, hbx⟩
      have HE3 := Lib.hid (Below.onto hbx HE2.out)
      clear hbx
      refine hK.out _ _ (HK.out _ HE3.out) (fun hHeld => ?_)
      clear hK K
      (try simp only [Act.put, List.getElem_toArray, List.getElem_cons_zero, List.getElem_cons_succ, List.setIfInBounds_toArray, List.set_cons_zero, List.set_cons_succ])
      refine wpAnyH_ready (rs := [16]) (by kernel_rfl) (by simp) ?_
      refine AllReadyH.cons rfl (fun K hK => ?_) AllReadyH.nil
      go_simp
      refine (HO2.out _).mono ?_
      rintro e y4 ⟨rfl, hbx⟩
      have HE4 := Lib.hid (Below.onto hbx HE3.out)
      clear hbx
      refine hK.out _ _ (HK.out _ HE4.out) (fun hHeld => ?_)
      clear hK K
      (try simp only [Act.put, List.getElem_toArray, List.getElem_cons_zero, List.getElem_cons_succ, List.setIfInBounds_toArray, List.set_cons_zero, List.set_cons_succ])
      refine wpAnyH_take (i := 17) (v := ?_) rfl (by kernel_rfl) (by kernel_rfl) (by kernel_rfl) (fun _ _ _ h => h) (Or.inl ⟨by rfl, ?_⟩) (by assumption) ?_
      rotate_left
      focus ((intro wS hSw; (try dsimp only at hSw); go_simp); (try (with_reducible rfl)))
      simp only [Act.put, List.getElem_toArray, List.getElem_cons_zero, List.getElem_cons_succ, List.setIfInBounds_toArray, List.set_cons_zero, List.set_cons_succ]
      refine wpAnyH_take (i := 18) (v := ?_) rfl (by kernel_rfl) (by kernel_rfl) (by kernel_rfl) (fun _ _ _ h => h) (Or.inl ⟨by rfl, ?_⟩) (by assumption) ?_
      rotate_left
      focus ((intro wS hSw; (try dsimp only at hSw); go_simp); (try (with_reducible rfl)))
      simp only [Act.put, List.getElem_toArray, List.getElem_cons_zero, List.getElem_cons_succ, List.setIfInBounds_toArray, List.set_cons_zero, List.set_cons_succ]
      refine wpAnyH_take (i := 19) (v := ?_) rfl (by kernel_rfl) (by kernel_rfl) (by kernel_rfl) (fun _ _ _ h => h) (Or.inl ⟨by rfl, ?_⟩) (by assumption) ?_
      rotate_left
      focus ((intro wS hSw; (try dsimp only at hSw); go_simp); (try (with_reducible rfl)))
      simp only [Act.put, List.getElem_toArray, List.getElem_cons_zero, List.getElem_cons_succ, List.setIfInBounds_toArray, List.set_cons_zero, List.set_cons_succ]
      refine wpAnyH_take (i := 20) (v := ?_) rfl (by kernel_rfl) (by kernel_rfl) (by kernel_rfl) (fun _ _ _ h => h) (Or.inl ⟨by rfl, ?_⟩) (by assumption) ?_
      rotate_left
      focus ((intro wS hSw; (try dsimp only at hSw); go_simp); (try (with_reducible rfl)))
      simp only [Act.put, List.getElem_toArray, List.getElem_cons_zero, List.getElem_cons_succ, List.setIfInBounds_toArray, List.set_cons_zero, List.set_cons_succ]
      refine wpAnyH_take (i := 23) (v := ?_) rfl (by kernel_rfl) (by kernel_rfl) (by kernel_rfl) (fun _ _ _ h => h) (Or.inl ⟨by rfl, ?_⟩) (by assumption) ?_
      rotate_left
      focus ((intro wS hSw; (try dsimp only at hSw); go_simp); (try (with_reducible rfl)))
      simp only [Act.put, List.getElem_toArray, List.getElem_cons_zero, List.getElem_cons_succ, List.setIfInBounds_toArray, List.set_cons_zero, List.set_cons_succ]
      refine wpAnyH_take (i := 24) (v := ?_) rfl (by kernel_rfl) (by kernel_rfl) (by kernel_rfl) (fun _ _ _ h => h) (Or.inl ⟨by rfl, ?_⟩) (by assumption) ?_
      rotate_left
      focus ((intro wS hSw; (try dsimp only at hSw); go_simp); (try (with_reducible rfl)))
      simp only [Act.put, List.getElem_toArray, List.getElem_cons_zero, List.getElem_cons_succ, List.setIfInBounds_toArray, List.set_cons_zero, List.set_cons_succ]
      refine wpAnyH_ready (rs := [21]) (by kernel_rfl) (by simp) ?_
      refine AllReadyH.cons rfl (fun K hK => ?_) AllReadyH.nil
      go_simp
      refine (HFL.out _ sp _ (HSK.out _ HE4.out)).mono ?_
      rintro e y5 ⟨v8, rfl, ho8, hbx⟩
      obtain ⟨A8, cap8, rfl, _, _⟩ := isFos_of_own ho8 rfl
      clear ho8
      have HE5 := Lib.hid (Below.onto hbx HE4.out)
      clear hbx
      refine hK.out _ _ (HK.out _ HE5.out) (fun hHeld => ?_)
      clear hK K
      (try simp only [Act.put, List.getElem_toArray, List.getElem_cons_zero, List.getElem_cons_succ, List.setIfInBounds_toArray, List.set_cons_zero, List.set_cons_succ])
      refine wpAnyH_take (i := 22) (v := ?_) rfl (by kernel_rfl) (by kernel_rfl) (by kernel_rfl) (fun _ _ _ h => h) (Or.inl ⟨by rfl, ?_⟩) (by assumption) ?_
      rotate_left
      focus ((intro wS hSw; (try dsimp only at hSw); go_simp); (try (with_reducible rfl)))
      simp only [Act.put, List.getElem_toArray, List.getElem_cons_zero, List.getElem_cons_succ, List.setIfInBounds_toArray, List.set_cons_zero, List.set_cons_succ]
      refine wpAnyH_take (i := 25) (v := ?_) rfl (by kernel_rfl) (by kernel_rfl) (by kernel_rfl) (fun _ _ _ h => h) (Or.inl ⟨by rfl, ?_⟩) (by assumption) ?_
      rotate_left
      focus ((intro wS hSw; (try dsimp only at hSw); go_simp); (try (with_reducible rfl)))
      simp only [Act.put, List.getElem_toArray, List.getElem_cons_zero, List.getElem_cons_succ, List.setIfInBounds_toArray, List.set_cons_zero, List.set_cons_succ]
      refine wpAnyH_take (i := 26) (v := ?_) rfl (by kernel_rfl) (by kernel_rfl) (by kernel_rfl) (fun _ _ _ h => h) (Or.inl ⟨by rfl, ?_⟩) (by assumption) ?_
      rotate_left
      focus ((intro wS hSw; (try dsimp only at hSw); go_simp); (try (with_reducible rfl)))
      simp only [Act.put, List.getElem_toArray, List.getElem_cons_zero, List.getElem_cons_succ, List.setIfInBounds_toArray, List.set_cons_zero, List.set_cons_succ]
      refine wpAnyH_take (i := 27) (v := ?_) rfl (by kernel_rfl) (by kernel_rfl) (by kernel_rfl) (fun _ _ _ h => h) (Or.inl ⟨by rfl, ?_⟩) (by assumption) ?_
      rotate_left
      focus ((intro wS hSw; (try dsimp only at hSw); go_simp); (try (with_reducible rfl)))
      simp only [Act.put, List.getElem_toArray, List.getElem_cons_zero, List.getElem_cons_succ, List.setIfInBounds_toArray, List.set_cons_zero, List.set_cons_succ]
      refine wpAnyH_done (by kernel_rfl) ?_ _
      clear hHeld
      /- ENDFINDS -/
      go_wp2_with fail
      go_ret
      exact ⟨rfl, Below.onto (Below.onto HE5.out HB7.out) HB0.out⟩
  · have hbg := fun w h => begin12_no (.slice A L.length cap0) L 30 w h hn hnm
    have HBG := Lib.hid hbg
    clear hbg hnm hn hri
    go_enter Try.func8, Try.ntmps8
    go_wp2_with fail
    rw [HW0.out, HBQ.out]
    refine (HBG.out _ HH0.out).mono ?_
    rintro e w1 ⟨rfl, hb1⟩
    have HB1 := Lib.hid hb1
    clear hb1
    go_wp2_with fail
    refine (speaks12_any _).mono ?_
    rintro e w2 ⟨rfl, hb2⟩
    have HB2 := Lib.hid (Below.onto hb2 HB1.out)
    clear hb2
    go_wp2_with fail
    refine (speaks12_any _).mono ?_
    rintro e w3 ⟨rfl, hb3⟩
    have HB3 := Lib.hid (Below.onto hb3 HB2.out)
    clear hb3
    go_wp2_with fail
    go_ret
    exact ⟨rfl, Below.onto HB3.out HB0.out⟩
end Go.Proofs.Ytnkbbobdhcloeaa
