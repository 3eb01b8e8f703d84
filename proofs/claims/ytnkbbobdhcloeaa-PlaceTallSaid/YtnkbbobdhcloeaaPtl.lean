/- The law PlaceTall. -/
import Derived.Test.YtnkbbobdhcloeaaP7
import Derived.Test.YtnkbbobdhcloeaaPw
namespace Go.Proofs.Ytnkbbobdhcloeaa
set_option linter.unusedSimpArgs false
set_option linter.unusedVariables false
open Go.RowKit
theorem want11Info : (Try.prog.info? 55).map (·.size) = some 7 := by kernel_rfl
theorem cf_of11 : ∀ (x : Value) (w : World), (callFunc 31 #[x]).run Try.prog w = .ok (.enter 31 #[x]) w := fun x w => by kernel_rfl
theorem cf_find11 : ∀ (x y : Value) (w : World), (callFunc 30 #[x, y]).run Try.prog w = .ok (.enter 30 #[x, y]) w := fun x y w => by kernel_rfl
set_option maxRecDepth 20000 in
set_option maxHeartbeats 8000000 in
theorem placeTall_any (L : List Fo) (v : Value) (q : Wp) (dn : Int) (w : World) (h : IsFos w v L) (hn : L.length ≤ maxLen) (hdn : 0 ≤ dn ∧ dn ≤ 255) : Calls Try.prog 13 #[v, .agg #[.int .i64 q.s, .int .i64 q.c, .int .i64 q.a, .int .i64 q.b, .int .i64 q.wd, .int .i64 q.h, .int .i64 q.y], .int .u8 dn] w fun e w' => e = .returned (.bool true) ∧ Below w.heap.size w w' := by
  obtain ⟨A, cap0, rfl, hx1, hx2⟩ := id h
  clear hx1 hx2
  obtain ⟨W0, hW0⟩ : ∃ W, w.alloc (.cells #[.int .i64 q.s, .int .i64 q.c, .int .i64 q.a, .int .i64 q.b, .int .i64 q.wd, .int .i64 q.h, .int .i64 q.y] 55) = W := ⟨_, rfl⟩
  obtain ⟨bq, hbq⟩ : ∃ b, w.heap.size = b := ⟨_, rfl⟩
  have hv0 : W0.heap[bq]? = some (.cells #[.int .i64 q.s, .int .i64 q.c, .int .i64 q.a, .int .i64 q.b, .int .i64 q.wd, .int .i64 q.h, .int .i64 q.y] 55 (0, 0)) := by rw [← hW0, ← hbq]; exact heap_alloc_new w _
  have hb0 : Below w.heap.size w W0 := by rw [← hW0]; exact (Below.refl _ _).alloc (Nat.le_refl _) _
  have hh0 := h.below hb0 (Nat.le_refl _)
  have HW0 := Lib.hid hW0
  have HBQ := Lib.hid hbq
  have HV0 := Lib.hid hv0
  have HB0 := Lib.hid hb0
  have HH0 := Lib.hid hh0
  clear hW0 hbq hv0 hb0 hh0 h
  have hri := fun w => right11_any q w
  by_cases hnm : nearB L = true ∧ (L.length : Int) ≤ 30
  · have hl : L.length ≤ 100000 := by have := hnm.2; omega
    have hbg := fun w h => begin11_yes (.slice A L.length cap0) L 30 w h hl hnm.1 hnm.2
    unfold BegSpPost at hbg
    have HBG := Lib.hid hbg
    have HNB := Lib.hid hnm.1
    have HNL := Lib.hid hn
    have HLL := Lib.hid hl
    have HML := Lib.hid hnm.2
    clear hbg hnm hn hl
    cases hq : okWp q with
    | false =>
      rw [hq] at hri
      have HRI := Lib.hid hri
      clear hri hq
      go_enter Try.func13, Try.ntmps13
      go_wp2_with fail
      rw [HW0.out, HBQ.out]
      refine (HBG.out _ HH0.out).mono ?_
      rintro e w1 ⟨sp, rfl, hs1, hb1⟩
      have HS1 := Lib.hid hs1
      have HB1 := Lib.hid hb1
      clear hb1 hs1
      go_wp2_with fail
      refine (speaks11_any _).mono ?_
      rintro e w2 ⟨rfl, hb2⟩
      have HS2 := Lib.hid (HS1.out.below hb2 (Nat.le_refl _))
      have HB2 := Lib.hid (Below.onto hb2 HB1.out)
      obtain ⟨x0, x1, x2, x3, x4, x5, x6⟩ := boxP (keepB HV0.out HB2.out)
      clear hb2
      go_wp2_with fail
      refine (HRI.out _).mono ?_
      rintro e w3 ⟨rfl, hb3⟩
      have HS3 := Lib.hid (HS2.out.below hb3 (Nat.le_refl _))
      have HB3 := Lib.hid (Below.onto hb3 HB2.out)
      clear hb3 x0 x1 x2 x3 x4 x5 x6
      obtain ⟨x0, x1, x2, x3, x4, x5, x6⟩ := boxP (keepB HV0.out HB3.out)
      clear x0 x1 x2 x3 x4 x5 x6
      go_wp2_with fail
      refine (speaks11_any _).mono ?_
      rintro e w4 ⟨rfl, hb4⟩
      have HB4 := Lib.hid (Below.onto hb4 HB3.out)
      clear hb4
      go_wp2_with fail
      go_ret
      exact ⟨rfl, Below.onto HB4.out HB0.out⟩
    | true =>
      rw [hq] at hri
      have HRI := Lib.hid hri
      have HQ := Lib.hid hq
      clear hri hq
      by_cases hyy : 140737488355328 < q.h
      · have hdy := decide_eq_true hyy
        clear hyy
        go_enter Try.func13, Try.ntmps13
        go_wp2_with fail
        rw [HW0.out, HBQ.out]
        refine (HBG.out _ HH0.out).mono ?_
        rintro e w1 ⟨sp, rfl, hs1, hb1⟩
        have HS1 := Lib.hid hs1
        have HB1 := Lib.hid hb1
        clear hb1 hs1
        go_wp2_with fail
        refine (speaks11_any _).mono ?_
        rintro e w2 ⟨rfl, hb2⟩
        have HS2 := Lib.hid (HS1.out.below hb2 (Nat.le_refl _))
        have HB2 := Lib.hid (Below.onto hb2 HB1.out)
        obtain ⟨x0, x1, x2, x3, x4, x5, x6⟩ := boxP (keepB HV0.out HB2.out)
        clear hb2
        go_wp2_with fail
        refine (HRI.out _).mono ?_
        rintro e w3 ⟨rfl, hb3⟩
        have HS3 := Lib.hid (HS2.out.below hb3 (Nat.le_refl _))
        have HB3 := Lib.hid (Below.onto hb3 HB2.out)
        clear hb3 x0 x1 x2 x3 x4 x5 x6
        obtain ⟨x0, x1, x2, x3, x4, x5, x6⟩ := boxP (keepB HV0.out HB3.out)
        go_wp2_with fail
        refine (speaks11_any _).mono ?_
        rintro e w4 ⟨rfl, hb4⟩
        have HB4 := Lib.hid (Below.onto hb4 HB3.out)
        clear hb4
        go_wp2_with fail
        go_ret
        exact ⟨rfl, Below.onto HB4.out HB0.out⟩
      have hdy := decide_eq_false hyy
      obtain ⟨⟨ia, ib, iw, ih, iy⟩, i0, i1, i2, i3⟩ := okWp_at HQ.out
      have hof := fun w => of11_any q w
      have hfd := fun base sp w h => find_any11 L q base sp w h HNB.out HLL.out HQ.out
      unfold PFindPost at hfd
      obtain ⟨t1, ht1⟩ : ∃ t, topP L q = t := ⟨_, rfl⟩
      have hN : ∃ l2 t2, t1 ≤ t2 ∧ ∃ k2, (∀ w, Calls Try.prog 31 #[.agg #[.int .i64 q.s, .int .i64 q.c, .int .i64 q.a, .int .i64 q.b, .int .i64 q.wd, .int .i64 (q.h + dn), .int .i64 q.y]] w fun e w' => e = .returned k2 ∧ Below w.heap.size w w') ∧
          ∀ base sp w, SpaceIs w base sp L → Calls Try.prog 30 #[.pointer (some ⟨sp, 0, none⟩), k2] w fun e w' => e = .returned (agg4 (l2, t2, l2 + q.wd, t2 + (q.h + dn))) ∧ Below w.heap.size w w' := by
        have hok2 : okWp ⟨q.s, q.c, q.a, q.b, q.wd, q.h + dn, q.y⟩ = true := by
          unfold okWp
          unfold in48 at *
          exact decide_eq_true (by simp only; omega)
        refine ⟨leftP L ⟨q.s, q.c, q.a, q.b, q.wd, q.h + dn, q.y⟩ (topP L ⟨q.s, q.c, q.a, q.b, q.wd, q.h + dn, q.y⟩), topP L ⟨q.s, q.c, q.a, q.b, q.wd, q.h + dn, q.y⟩, ?_, _, fun w => of11_any ⟨q.s, q.c, q.a, q.b, q.wd, q.h + dn, q.y⟩ w, fun base sp w h => find_any11 L ⟨q.s, q.c, q.a, q.b, q.wd, q.h + dn, q.y⟩ base sp w h HNB.out HLL.out hok2⟩
        rw [← ht1]
        exact topP_le HNB.out HQ.out hok2 (startP_mono rfl (Int.le_refl _)) (fun z hz => soP_tall (show q.h ≤ q.h + dn by omega) hz)
      obtain ⟨t3, ht3⟩ : ∃ t, topP L ⟨q.s, q.c, q.a, q.b, q.wd, 0, q.y⟩ = t := ⟨_, rfl⟩
      obtain ⟨l3, hl3⟩ : ∃ t, leftP L ⟨q.s, q.c, q.a, q.b, q.wd, 0, q.y⟩ t3 = t := ⟨_, rfl⟩
      have h31 : t3 ≤ t1 := by
        have hok2 : okWp ⟨q.s, q.c, q.a, q.b, q.wd, 0, q.y⟩ = true := by
          unfold okWp
          unfold in48 at *
          exact decide_eq_true (by simp only; omega)
        rw [← ht3, ← ht1]
        refine topP_le HNB.out hok2 HQ.out (startP_mono rfl (Int.le_refl _)) (fun z hz => ?_)
        by_cases h0 : 0 ≤ q.h
        · exact soP_tall (h := 0) (k := q.h) h0 hz
        · have e : ∀ k, k ≤ 0 → soP L ⟨q.s, q.c, q.a, q.b, q.wd, k, q.y⟩ z = soP L ⟨q.s, q.c, q.a, q.b, q.wd, 0, q.y⟩ z := fun k hk => by
            have : hgh k = hgh 0 := by unfold hgh; omega
            unfold soP freeS bnds
            simp only [this]
          exact (e q.h (by omega)).symm.trans hz
      have hF : ∃ l2 t2, t2 = t3 ∧ l2 = l3 ∧ ∃ k2, (∀ w, Calls Try.prog 31 #[.agg #[.int .i64 q.s, .int .i64 q.c, .int .i64 q.a, .int .i64 q.b, .int .i64 q.wd, .int .i64 (0), .int .i64 q.y]] w fun e w' => e = .returned k2 ∧ Below w.heap.size w w') ∧
          ∀ base sp w, SpaceIs w base sp L → Calls Try.prog 30 #[.pointer (some ⟨sp, 0, none⟩), k2] w fun e w' => e = .returned (agg4 (l2, t2, l2 + q.wd, t2 + (0))) ∧ Below w.heap.size w w' := by
        have hok2 : okWp ⟨q.s, q.c, q.a, q.b, q.wd, 0, q.y⟩ = true := by
          unfold okWp
          unfold in48 at *
          exact decide_eq_true (by simp only; omega)
        refine ⟨leftP L ⟨q.s, q.c, q.a, q.b, q.wd, 0, q.y⟩ (topP L ⟨q.s, q.c, q.a, q.b, q.wd, 0, q.y⟩), topP L ⟨q.s, q.c, q.a, q.b, q.wd, 0, q.y⟩, ht3, by rw [ht3]; exact hl3, _, fun w => of11_any ⟨q.s, q.c, q.a, q.b, q.wd, 0, q.y⟩ w, fun base sp w h => find_any11 L ⟨q.s, q.c, q.a, q.b, q.wd, 0, q.y⟩ base sp w h HNB.out HLL.out hok2⟩
      have hG : ∃ l2 t2, t2 = t3 ∧ l2 = l3 ∧ ∃ k2, (∀ w, Calls Try.prog 31 #[.agg #[.int .i64 q.s, .int .i64 q.c, .int .i64 q.a, .int .i64 q.b, .int .i64 q.wd, .int .i64 (1), .int .i64 q.y]] w fun e w' => e = .returned k2 ∧ Below w.heap.size w w') ∧
          ∀ base sp w, SpaceIs w base sp L → Calls Try.prog 30 #[.pointer (some ⟨sp, 0, none⟩), k2] w fun e w' => e = .returned (agg4 (l2, t2, l2 + q.wd, t2 + (1))) ∧ Below w.heap.size w w' := by
        have hok2 : okWp ⟨q.s, q.c, q.a, q.b, q.wd, 1, q.y⟩ = true := by
          unfold okWp
          unfold in48 at *
          exact decide_eq_true (by simp only; omega)
        refine ⟨leftP L ⟨q.s, q.c, q.a, q.b, q.wd, 1, q.y⟩ (topP L ⟨q.s, q.c, q.a, q.b, q.wd, 1, q.y⟩), topP L ⟨q.s, q.c, q.a, q.b, q.wd, 1, q.y⟩, ht3, by rw [show topP L ⟨q.s, q.c, q.a, q.b, q.wd, 1, q.y⟩ = t3 from ht3]; exact hl3, _, fun w => of11_any ⟨q.s, q.c, q.a, q.b, q.wd, 1, q.y⟩ w, fun base sp w h => find_any11 L ⟨q.s, q.c, q.a, q.b, q.wd, 1, q.y⟩ base sp w h HNB.out HLL.out hok2⟩
      rw [ht1] at hfd
      obtain ⟨l1, hl1⟩ : ∃ t, leftP L q t1 = t := ⟨_, rfl⟩
      rw [hl1] at hfd
      unfold in48 at iw iy ia ib ih
      have HOF := Lib.hid hof
      have HFD := Lib.hid hfd
      have HN := Lib.hid hN
      have HF := Lib.hid hF
      have HG := Lib.hid hG
      clear hof hfd hN hF hG ht1 hl1 ht3 hl3 hyy i0 i1 i2 i3
      go_enter Try.func13, Try.ntmps13
      go_wp2_with fail
      rw [HW0.out, HBQ.out]
      refine (HBG.out _ HH0.out).mono ?_
      rintro e w1 ⟨sp, rfl, hs1, hb1⟩
      have HS1 := Lib.hid hs1
      have HB1 := Lib.hid hb1
      clear hb1 hs1
      go_wp2_with fail
      refine (speaks11_any _).mono ?_
      rintro e w2 ⟨rfl, hb2⟩
      have HS2 := Lib.hid (HS1.out.below hb2 (Nat.le_refl _))
      have HB2 := Lib.hid (Below.onto hb2 HB1.out)
      obtain ⟨x0, x1, x2, x3, x4, x5, x6⟩ := boxP (keepB HV0.out HB2.out)
      clear hb2
      go_wp2_with fail
      refine (HRI.out _).mono ?_
      rintro e w3 ⟨rfl, hb3⟩
      have HS3 := Lib.hid (HS2.out.below hb3 (Nat.le_refl _))
      have HB3 := Lib.hid (Below.onto hb3 HB2.out)
      clear hb3 x0 x1 x2 x3 x4 x5 x6
      obtain ⟨x0, x1, x2, x3, x4, x5, x6⟩ := boxP (keepB HV0.out HB3.out)
      go_wp2_with fail
      rename_i K hK
      refine copies3_at 34 8 4 bq [.int .i64 q.s, .int .i64 q.c, .int .i64 q.a, .int .i64 q.b, .int .i64 q.wd, .int .i64 q.h, .int .i64 q.y] 55 55 _ [.int .i64 0, .int .i64 0, .int .i64 0, .int .i64 0, .int .i64 0, .int .i64 0, .int .i64 0]
        (by kernel_rfl) rfl (by kernel_rfl) ⟨⟨_, rfl, rfl, rfl, rfl⟩, ⟨_, rfl, rfl, rfl, rfl⟩, ⟨_, rfl, rfl, rfl, rfl⟩, ⟨_, rfl, rfl, rfl, rfl⟩, ⟨_, rfl, rfl, rfl, rfl⟩, ⟨_, rfl, rfl, rfl, rfl⟩, ⟨_, rfl, rfl, rfl, rfl⟩, ⟨_, rfl, rfl, rfl, rfl⟩, ⟨_, rfl, rfl, rfl, rfl⟩⟩ (by kernel_rfl) (by decide) (by simp) (by decide) rfl rfl rfl rfl Try.underlying55 rfl want11Info (by simp [Value.oneCell']) (fun w => by kernel_rfl) rfl rfl (keepB HV0.out HB3.out) ?_
      intro b0 b1 b2 w4 g0 g1 g2 n01 n02 n12 m0 m1 m2 hb4
      have HB4 := Lib.hid (Below.onto hb4 HB3.out)
      have c03 : w4.cell? ⟨b0, 5, none⟩ = some (.int .i64 q.h) := cell_of_row w4 b0 5 _ _ (0, 0) g0
      have c13 : w4.cell? ⟨b1, 5, none⟩ = some (.int .i64 q.h) := cell_of_row w4 b1 5 _ _ (0, 0) g1
      have c23 : w4.cell? ⟨b2, 5, none⟩ = some (.int .i64 q.h) := cell_of_row w4 b2 5 _ _ (0, 0) g2
      have f03 := frozen_of_row w4 b0 5 _ _ g0
      have f13 := frozen_of_row w4 b1 5 _ _ g1
      have f23 := frozen_of_row w4 b2 5 _ _ g2
      refine hK _ _ ?_
      clear hK x0 x1 x2 x3 x4 x5 x6
      go_wp2_with fail
      rename_i K2 hK2
      obtain ⟨W6, hW6⟩ : ∃ W, ((w4.setCell ⟨b0, 5, none⟩ (.int .i64 (q.h + dn))).setCell ⟨b1, 5, none⟩ (.int .i64 0)).setCell ⟨b2, 5, none⟩ (.int .i64 1) = W := ⟨_, rfl⟩
      rw [hW6]
      have e0 : W6.heap[b0]? = some (.cells #[.int .i64 q.s, .int .i64 q.c, .int .i64 q.a, .int .i64 q.b, .int .i64 q.wd, .int .i64 (q.h + dn), .int .i64 q.y] 55 (0, 0)) := by rw [← hW6]; exact (heap_setCell_other _ _ _ _ n02).trans ((heap_setCell_other _ _ _ _ n01).trans (heap_setCell_same w4 b0 5 _ _ _ g0))
      have e1 : W6.heap[b1]? = some (.cells #[.int .i64 q.s, .int .i64 q.c, .int .i64 q.a, .int .i64 q.b, .int .i64 q.wd, .int .i64 (0), .int .i64 q.y] 55 (0, 0)) := by rw [← hW6]; exact (heap_setCell_other _ _ _ _ n12).trans (heap_setCell_same _ b1 5 _ _ _ ((heap_setCell_other _ _ _ _ (Ne.symm n01)).trans g1))
      have e2 : W6.heap[b2]? = some (.cells #[.int .i64 q.s, .int .i64 q.c, .int .i64 q.a, .int .i64 q.b, .int .i64 q.wd, .int .i64 (1), .int .i64 q.y] 55 (0, 0)) := by rw [← hW6]; exact heap_setCell_same _ b2 5 _ _ _ ((heap_setCell_other _ _ _ _ (Ne.symm n12)).trans ((heap_setCell_other _ _ _ _ (Ne.symm n02)).trans g2))
      have hb6 : Below w3.heap.size w3 W6 := by rw [← hW6]; exact Below.setCell (Below.setCell (Below.setCell hb4 m0 _) m1 _) m2 _
      have g3 := keepB (keepB HV0.out HB3.out) hb6
      have HS6 := Lib.hid (HS3.out.below hb6 (Nat.le_refl _))
      have HB6 := Lib.hid (Below.onto hb6 HB3.out)
      clear hW6 hb6 hb4 c03 c13 c23 f03 f13 f23 g0 g1 g2 n01 n02 n12 m0 m1 m2 HB4
      obtain ⟨l2, t2, hle, k2, hof2, hfd2⟩ := HN.out
      refine two_at 45 11 7 7 4 8 bq b0 (.pointer (some ⟨sp, 0, none⟩)) (.pointer (some ⟨sp, 0, none⟩)) _ k2 31 30 [.int .i64 q.s, .int .i64 q.c, .int .i64 q.a, .int .i64 q.b, .int .i64 q.wd, .int .i64 q.h, .int .i64 q.y] [.int .i64 q.s, .int .i64 q.c, .int .i64 q.a, .int .i64 q.b, .int .i64 q.wd, .int .i64 (q.h + dn), .int .i64 q.y] (l1, t1, l1 + q.wd, t1 + q.h) (l2, t2, l2 + q.wd, t2 + (q.h + dn)) 55 25 59 55 55 _
        (by kernel_rfl) rfl (by kernel_rfl) ⟨⟨_, rfl, rfl, rfl, rfl⟩, ⟨_, rfl, rfl, rfl, rfl⟩, ⟨_, rfl, rfl, rfl, rfl⟩, ⟨_, rfl, rfl, rfl, rfl⟩, ⟨_, rfl, rfl, rfl, rfl⟩, ⟨_, rfl, rfl, rfl, rfl⟩, ⟨_, rfl, rfl, rfl, rfl⟩, ⟨_, rfl, rfl, rfl, rfl⟩, ⟨_, rfl, rfl, rfl, rfl⟩, ⟨_, rfl, rfl, rfl, rfl⟩, ⟨_, rfl, rfl, rfl, rfl⟩, ⟨_, rfl, rfl, rfl, rfl⟩⟩ (by kernel_rfl)
        cf_of11 cf_find11 (by decide) (by simp) (by decide) (by decide) (by decide) (by decide) rfl rfl rfl rfl rfl rfl Try.underlying55 rfl want11Info want11Info
        g3 e0 HOF.out hof2 (fun w hb => HFD.out _ sp w (HS6.out.below hb (Nat.le_refl _))) (fun w hb => hfd2 _ sp w (HS6.out.below hb (Nat.le_refl _))) ?_
      intro bA bB w8 hA hB hne hnA hnB hb8
      have HB8 := Lib.hid (Below.onto hb8 HB6.out)
      have HS8 := Lib.hid (HS6.out.below hb8 (Nat.le_refl _))
      have e1 := keepB e1 hb8
      have e2 := keepB e2 hb8
      refine hK2 _ _ ?_
      clear hK2 hb8 e0 g3 hof2 hfd2 hnA hnB hne
      go_wp2_with fail
      rename_i K3 hK3
      obtain ⟨l3, t3, hle3, hle3', k3, hof3, hfd3⟩ := HF.out
      obtain ⟨l4, t4, hle4, hle4', k4, hof4, hfd4⟩ := HG.out
      simp only [List.setIfInBounds_toArray, Nat.reduceAdd, List.set_cons_zero, List.set_cons_succ]
      have HA8 := Lib.hid hA
      have HB8' := Lib.hid hB
      refine two_at 53 13 7 7 9 10 b1 b2 (.pointer (some ⟨sp, 0, none⟩)) (.pointer (some ⟨sp, 0, none⟩)) k3 k4 31 30 [.int .i64 q.s, .int .i64 q.c, .int .i64 q.a, .int .i64 q.b, .int .i64 q.wd, .int .i64 (0), .int .i64 q.y] [.int .i64 q.s, .int .i64 q.c, .int .i64 q.a, .int .i64 q.b, .int .i64 q.wd, .int .i64 (1), .int .i64 q.y] (l3, t3, l3 + q.wd, t3 + 0) (l4, t4, l4 + q.wd, t4 + 1) 55 25 59 55 55 _
        (by kernel_rfl) rfl (by kernel_rfl) ⟨⟨_, rfl, rfl, rfl, rfl⟩, ⟨_, rfl, rfl, rfl, rfl⟩, ⟨_, rfl, rfl, rfl, rfl⟩, ⟨_, rfl, rfl, rfl, rfl⟩, ⟨_, rfl, rfl, rfl, rfl⟩, ⟨_, rfl, rfl, rfl, rfl⟩, ⟨_, rfl, rfl, rfl, rfl⟩, ⟨_, rfl, rfl, rfl, rfl⟩, ⟨_, rfl, rfl, rfl, rfl⟩, ⟨_, rfl, rfl, rfl, rfl⟩, ⟨_, rfl, rfl, rfl, rfl⟩, ⟨_, rfl, rfl, rfl, rfl⟩⟩ (by kernel_rfl)
        cf_of11 cf_find11 (by decide) (by simp) (by decide) (by decide) (by decide) (by decide) rfl rfl rfl rfl rfl rfl Try.underlying55 rfl want11Info want11Info
        e1 e2 hof3 hof4 (fun w hb => hfd3 _ sp w (HS8.out.below hb (Nat.le_refl _))) (fun w hb => hfd4 _ sp w (HS8.out.below hb (Nat.le_refl _))) ?_
      intro bC bD w9 hC hD hne hnC hnD hb9
      have HB9 := Lib.hid (Below.onto hb9 HB8.out)
      have hA9 := keepB HA8.out hb9
      have hB9 := keepB HB8'.out hb9
      have a1 : w9.cell? ⟨bA, 1, none⟩ = some (.int .i64 t1) := cell_of_row w9 bA 1 _ _ (0, 0) hA9
      have a2 : w9.cell? ⟨bB, 1, none⟩ = some (.int .i64 t2) := cell_of_row w9 bB 1 _ _ (0, 0) hB9
      have a3 : w9.cell? ⟨bC, 1, none⟩ = some (.int .i64 t3) := cell_of_row w9 bC 1 _ _ (0, 0) hC
      have a4 : w9.cell? ⟨bD, 1, none⟩ = some (.int .i64 t4) := cell_of_row w9 bD 1 _ _ (0, 0) hD
      have a5 : w9.cell? ⟨bC, 0, none⟩ = some (.int .i64 l3) := cell_of_row w9 bC 0 _ _ (0, 0) hC
      have a6 : w9.cell? ⟨bD, 0, none⟩ = some (.int .i64 l4) := cell_of_row w9 bD 0 _ _ (0, 0) hD
      subst hle3 hle3' hle4 hle4'
      have hge := decide_eq_true hle
      have hgf := decide_eq_true h31
      refine hK3 _ _ ?_
      clear hK3 hA hB hA9 hB9 hC hD hb9 e1 e2 hof3 hfd3 hof4 hfd4 hnC hnD hne
      go_wp2_with fail
      go_ret
      exact ⟨rfl, Below.onto HB9.out HB0.out⟩
  · have hbg := fun w h => begin11_no (.slice A L.length cap0) L 30 w h hn hnm
    have HBG := Lib.hid hbg
    clear hbg hnm hn hri
    go_enter Try.func13, Try.ntmps13
    go_wp2_with fail
    rw [HW0.out, HBQ.out]
    refine (HBG.out _ HH0.out).mono ?_
    rintro e w1 ⟨rfl, hb1⟩
    have HB1 := Lib.hid hb1
    clear hb1
    go_wp2_with fail
    refine (speaks11_any _).mono ?_
    rintro e w2 ⟨rfl, hb2⟩
    have HB2 := Lib.hid (Below.onto hb2 HB1.out)
    clear hb2
    go_wp2_with fail
    refine (speaks11_any _).mono ?_
    rintro e w3 ⟨rfl, hb3⟩
    have HB3 := Lib.hid (Below.onto hb3 HB2.out)
    clear hb3
    go_wp2_with fail
    go_ret
    exact ⟨rfl, Below.onto HB3.out HB0.out⟩
end Go.Proofs.Ytnkbbobdhcloeaa
