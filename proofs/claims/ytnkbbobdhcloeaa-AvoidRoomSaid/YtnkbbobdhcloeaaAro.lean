/- The law AvoidRoom. -/
import Derived.Test.YtnkbbobdhcloeaaAal
namespace Go.Proofs.Ytnkbbobdhcloeaa
set_option linter.unusedSimpArgs false
set_option linter.unusedVariables false
open Go.RowKit
theorem rcF1 (v0 v1 v2 v3 : Value) (w : World) : (Instr.field 30 (.agg #[v0, v1, v2, v3]) 1).run Try.prog w = .ok v1 w := by kernel_rfl
set_option maxRecDepth 20000 in
set_option maxHeartbeats 8000000 in
theorem avoidRoom_any (L : List Fo) (v : Value) (q : Wa) (ls dn : Int) (w : World) (h : IsFos w v L) (hn : L.length ≤ maxLen) (hls : 0 ≤ ls ∧ ls ≤ 255) (hdn : 0 ≤ dn ∧ dn ≤ 255) : Calls Try.prog 5 #[v, .agg #[.int .i64 q.a, .int .i64 q.b, .int .i64 q.wd, .int .i64 q.h, .int .i64 q.y], .int .u8 ls, .int .u8 dn] w fun e w' => e = .returned (.bool true) ∧ Below w.heap.size w w' := by
  obtain ⟨A, cap0, rfl, hx1, hx2⟩ := id h
  clear hx1 hx2
  obtain ⟨W0, hW0⟩ : ∃ W, w.alloc (.cells #[.int .i64 q.a, .int .i64 q.b, .int .i64 q.wd, .int .i64 q.h, .int .i64 q.y] 24) = W := ⟨_, rfl⟩
  obtain ⟨bq, hbq⟩ : ∃ b, w.heap.size = b := ⟨_, rfl⟩
  have hv0 : W0.heap[bq]? = some (.cells #[.int .i64 q.a, .int .i64 q.b, .int .i64 q.wd, .int .i64 q.h, .int .i64 q.y] 24 (0, 0)) := by rw [← hW0, ← hbq]; exact heap_alloc_new w _
  have hb0 : Below w.heap.size w W0 := by rw [← hW0]; exact (Below.refl _ _).alloc (Nat.le_refl _) _
  have hh0 := h.below hb0 (Nat.le_refl _)
  have HW0 := Lib.hid hW0
  have HBQ := Lib.hid hbq
  have HV0 := Lib.hid hv0
  have HB0 := Lib.hid hb0
  have HH0 := Lib.hid hh0
  clear hW0 hbq hv0 hb0 hh0 h
  have hri := fun w => right12_any q w
  by_cases hnm : nearB L = true ∧ (L.length : Int) ≤ 30
  · have hl : L.length ≤ 100000 := by have := hnm.2; omega
    have hbg := fun w h => begin12_yes (.slice A L.length cap0) L 30 w h hl hnm.1 hnm.2
    unfold BegSpPost at hbg
    have HBG := Lib.hid hbg
    have HNB := Lib.hid hnm.1
    have HNL := Lib.hid hn
    have HLL := Lib.hid hl
    clear hbg hnm hn hl
    cases hq : okWa q with
    | false =>
      rw [hq] at hri
      have HRI := Lib.hid hri
      clear hri hq
      go_enter Try.func5, Try.ntmps5
      go_wp2_with fail
      rw [HW0.out, HBQ.out]
      refine (HBG.out _ HH0.out).mono ?_
      rintro e w1 ⟨sp, rfl, hs1, hb1⟩
      have HS1 := Lib.hid hs1
      have HB1 := Lib.hid hb1
      clear hb1 hs1
      go_wp2_with fail
      refine (speaks12_any _).mono ?_
      rintro e w2 ⟨rfl, hb2⟩
      have HS2 := Lib.hid (HS1.out.below hb2 (Nat.le_refl _))
      have HB2 := Lib.hid (Below.onto hb2 HB1.out)
      obtain ⟨x0, x1, x2, x3, x4⟩ := box5 (blk_keep HV0.out HB2.out)
      clear hb2
      go_wp2_with fail
      refine (HRI.out _).mono ?_
      rintro e w3 ⟨rfl, hb3⟩
      have HS3 := Lib.hid (HS2.out.below hb3 (Nat.le_refl _))
      have HB3 := Lib.hid (Below.onto hb3 HB2.out)
      clear hb3 x0 x1 x2 x3 x4
      obtain ⟨x0, x1, x2, x3, x4⟩ := box5 (blk_keep HV0.out HB3.out)
      clear x0 x1 x2 x3 x4
      go_wp2_with fail
      refine (speaks12_any _).mono ?_
      rintro e w4 ⟨rfl, hb4⟩
      have HB4 := Lib.hid (Below.onto hb4 HB3.out)
      clear hb4
      go_wp2_with fail
      go_ret
      exact ⟨rfl, Below.onto HB4.out HB0.out⟩
    | true =>
      rw [hq] at hri
      have HRI := Lib.hid hri
      have HQ := Lib.hid hq
      clear hri hq
      by_cases hyy : 140737488355328 < q.y
      · have hdy := decide_eq_true hyy
        clear hyy
        go_enter Try.func5, Try.ntmps5
        go_wp2_with fail
        rw [HW0.out, HBQ.out]
        refine (HBG.out _ HH0.out).mono ?_
        rintro e w1 ⟨sp, rfl, hs1, hb1⟩
        have HS1 := Lib.hid hs1
        have HB1 := Lib.hid hb1
        clear hb1 hs1
        go_wp2_with fail
        refine (speaks12_any _).mono ?_
        rintro e w2 ⟨rfl, hb2⟩
        have HS2 := Lib.hid (HS1.out.below hb2 (Nat.le_refl _))
        have HB2 := Lib.hid (Below.onto hb2 HB1.out)
        obtain ⟨x0, x1, x2, x3, x4⟩ := box5 (blk_keep HV0.out HB2.out)
        clear hb2
        go_wp2_with fail
        refine (HRI.out _).mono ?_
        rintro e w3 ⟨rfl, hb3⟩
        have HS3 := Lib.hid (HS2.out.below hb3 (Nat.le_refl _))
        have HB3 := Lib.hid (Below.onto hb3 HB2.out)
        clear hb3 x0 x1 x2 x3 x4
        obtain ⟨x0, x1, x2, x3, x4⟩ := box5 (blk_keep HV0.out HB3.out)
        go_wp2_with fail
        refine (speaks12_any _).mono ?_
        rintro e w4 ⟨rfl, hb4⟩
        have HB4 := Lib.hid (Below.onto hb4 HB3.out)
        clear hb4
        go_wp2_with fail
        go_ret
        exact ⟨rfl, Below.onto HB4.out HB0.out⟩
      have hdy := decide_eq_false hyy
      obtain ⟨⟨ia, ib, iw, ih, iy⟩, i0⟩ := okWa_at HQ.out
      have hof := fun w => of12_any q w
      have hfd := fun base sp w h => find_any12 L q base sp w h HNB.out HLL.out HQ.out
      unfold FindPost at hfd
      obtain ⟨t1, ht1⟩ : ∃ t, topA L q = t := ⟨_, rfl⟩
      have hN : ∃ l2 t2, t1 ≤ t2 ∧ ∃ k2, (∀ w, Calls Try.prog 19 #[.agg #[.int .i64 q.a, .int .i64 q.b, .int .i64 q.wd, .int .i64 q.h, .int .i64 (q.y + dn)]] w fun e w' => e = .returned k2 ∧ Below w.heap.size w w') ∧
          ∀ base sp w, SpaceIs w base sp L → Calls Try.prog 18 #[.pointer (some ⟨sp, 0, none⟩), k2] w fun e w' => e = .returned (agg4 (l2, t2, l2 + q.wd, t2 + q.h)) ∧ Below w.heap.size w w' := by
        have hok2 : okWa ⟨q.a, q.b, q.wd, q.h, q.y + dn⟩ = true := by
          unfold okWa
          unfold in48 at *
          exact decide_eq_true (by simp only; omega)
        refine ⟨leftA L ⟨q.a, q.b, q.wd, q.h, q.y + dn⟩ (topA L ⟨q.a, q.b, q.wd, q.h, q.y + dn⟩), topA L ⟨q.a, q.b, q.wd, q.h, q.y + dn⟩, ?_, _, fun w => of12_any ⟨q.a, q.b, q.wd, q.h, q.y + dn⟩ w, fun base sp w h => find_any12 L ⟨q.a, q.b, q.wd, q.h, q.y + dn⟩ base sp w h HNB.out HLL.out hok2⟩
        rw [← ht1]
        exact topA_le (near_low HNB.out) HQ.out hok2 (show q.y ≤ q.y + dn by omega) (fun z hz => hz)
      have hM : q.wd ≤ q.b - ls - q.a → ∃ l2 t2, t1 ≤ t2 ∧ ∃ k2, (∀ w, Calls Try.prog 19 #[.agg #[.int .i64 q.a, .int .i64 (q.b - ls), .int .i64 q.wd, .int .i64 q.h, .int .i64 q.y]] w fun e w' => e = .returned k2 ∧ Below w.heap.size w w') ∧
          ∀ base sp w, SpaceIs w base sp L → Calls Try.prog 18 #[.pointer (some ⟨sp, 0, none⟩), k2] w fun e w' => e = .returned (.agg #[.int .i64 l2, .int .i64 t2, .int .i64 (l2 + q.wd), .int .i64 (t2 + q.h)]) ∧ Below w.heap.size w w' := by
        intro hw2
        have hok2 : okWa ⟨q.a, q.b - ls, q.wd, q.h, q.y⟩ = true := by
          unfold okWa
          unfold in48 at *
          exact decide_eq_true (by simp only; omega)
        refine ⟨leftA L ⟨q.a, q.b - ls, q.wd, q.h, q.y⟩ (topA L ⟨q.a, q.b - ls, q.wd, q.h, q.y⟩), topA L ⟨q.a, q.b - ls, q.wd, q.h, q.y⟩, ?_, _, fun w => of12_any ⟨q.a, q.b - ls, q.wd, q.h, q.y⟩ w, fun base sp w h => find_any12 L ⟨q.a, q.b - ls, q.wd, q.h, q.y⟩ base sp w h HNB.out HLL.out hok2⟩
        rw [← ht1]
        exact topA_le (near_low HNB.out) HQ.out hok2 (Int.le_refl _) (fun z hz => soA_room (by omega) hw2 hz)
      rw [ht1] at hfd
      obtain ⟨l1, hl1⟩ : ∃ t, leftA L q t1 = t := ⟨_, rfl⟩
      rw [hl1] at hfd
      unfold in48 at iw iy ia ib
      have HOF := Lib.hid hof
      have HFD := Lib.hid hfd
      have HN := Lib.hid hN
      have HM := Lib.hid hM
      clear hof hfd hN hM ht1 hl1 ih
      go_enter Try.func5, Try.ntmps5
      go_wp2_with fail
      rw [HW0.out, HBQ.out]
      refine (HBG.out _ HH0.out).mono ?_
      rintro e w1 ⟨sp, rfl, hs1, hb1⟩
      have HS1 := Lib.hid hs1
      have HB1 := Lib.hid hb1
      clear hb1 hs1
      go_wp2_with fail
      refine (speaks12_any _).mono ?_
      rintro e w2 ⟨rfl, hb2⟩
      have HS2 := Lib.hid (HS1.out.below hb2 (Nat.le_refl _))
      have HB2 := Lib.hid (Below.onto hb2 HB1.out)
      obtain ⟨x0, x1, x2, x3, x4⟩ := box5 (blk_keep HV0.out HB2.out)
      clear hb2
      go_wp2_with fail
      refine (HRI.out _).mono ?_
      rintro e w3 ⟨rfl, hb3⟩
      have HS3 := Lib.hid (HS2.out.below hb3 (Nat.le_refl _))
      have HB3 := Lib.hid (Below.onto hb3 HB2.out)
      clear hb3 x0 x1 x2 x3 x4
      obtain ⟨x0, x1, x2, x3, x4⟩ := box5 (blk_keep HV0.out HB3.out)
      go_wp2_with (first
        | ((with_reducible refine store_new (dst := none) 24 (.tmp 10) (.tmp 33) _ _ #[.int .i64 q.a, .int .i64 q.b, .int .i64 q.wd, .int .i64 q.h, .int .i64 q.y] 24 rfl ?_ ?_ ?_ ?_ ?_ ?_); rfl; rfl; exact want12Info; rfl; (simp [Value.oneCell'])))
      rename_i K hK
      obtain ⟨l2, t2, hle, k2, hof2, hfd2⟩ := HN.out
      obtain ⟨b10, hb10⟩ : ∃ b, w3.heap.size = b := ⟨_, rfl⟩
      obtain ⟨W7, hW7⟩ : ∃ W, w3.alloc (.cells #[.int .i64 q.a, .int .i64 q.b, .int .i64 q.wd, .int .i64 q.h, .int .i64 (q.y + dn)] 24) = W := ⟨_, rfl⟩
      rw [hW7, hb10]
      have hb7 : Below w3.heap.size w3 W7 := by rw [← hW7]; exact (Below.refl w3.heap.size w3).alloc (Nat.le_refl _) _
      have g1 : W7.heap[bq]? = some (.cells #[.int .i64 q.a, .int .i64 q.b, .int .i64 q.wd, .int .i64 q.h, .int .i64 q.y] 24 (0, 0)) := blk_keep (blk_keep HV0.out HB3.out) hb7
      have g2 : W7.heap[b10]? = some (.cells #[.int .i64 q.a, .int .i64 q.b, .int .i64 q.wd, .int .i64 q.h, .int .i64 (q.y + dn)] 24 (0, 0)) := by rw [← hW7, ← hb10]; exact heap_alloc_new w3 _
      have HS7 := Lib.hid (HS3.out.below hb7 (Nat.le_refl _))
      have HB7 := Lib.hid (Below.onto hb7 HB3.out)
      clear hb7 hW7 hb10 x0 x1 x2 x3 x4
      refine two_at 40 11 9 9 5 10 bq b10 (.pointer (some ⟨sp, 0, none⟩)) (.pointer (some ⟨sp, 0, none⟩)) _ k2 19 18 [.int .i64 q.a, .int .i64 q.b, .int .i64 q.wd, .int .i64 q.h, .int .i64 q.y] [.int .i64 q.a, .int .i64 q.b, .int .i64 q.wd, .int .i64 q.h, .int .i64 (q.y + dn)] (l1, t1, l1 + q.wd, t1 + q.h) (l2, t2, l2 + q.wd, t2 + q.h) 24 25 35 24 24 _
        (by kernel_rfl) rfl (by kernel_rfl) ⟨⟨_, rfl, rfl, rfl, rfl⟩, ⟨_, rfl, rfl, rfl, rfl⟩, ⟨_, rfl, rfl, rfl, rfl⟩, ⟨_, rfl, rfl, rfl, rfl⟩, ⟨_, rfl, rfl, rfl, rfl⟩, ⟨_, rfl, rfl, rfl, rfl⟩, ⟨_, rfl, rfl, rfl, rfl⟩, ⟨_, rfl, rfl, rfl, rfl⟩, ⟨_, rfl, rfl, rfl, rfl⟩, ⟨_, rfl, rfl, rfl, rfl⟩, ⟨_, rfl, rfl, rfl, rfl⟩, ⟨_, rfl, rfl, rfl, rfl⟩⟩ (by kernel_rfl)
        cf_of12 cf_find12 (by decide) (by simp) (by decide) (by decide) (by decide) (by decide) rfl rfl rfl rfl rfl rfl Try.underlying24 rfl want12Info want12Info
        g1 g2 HOF.out hof2 (fun w hb => HFD.out _ sp w (HS7.out.below hb (Nat.le_refl _))) (fun w hb => hfd2 _ sp w (HS7.out.below hb (Nat.le_refl _))) ?_
      intro bA bB w8 hA hB hne hnA hnB hb8
      have HB8 := Lib.hid (Below.onto hb8 HB7.out)
      have HS8 := Lib.hid (HS7.out.below hb8 (Nat.le_refl _))
      have HA8 := Lib.hid hA
      have c1 : w8.cell? ⟨bA, 1, none⟩ = some (.int .i64 t1) := cell_of_row w8 bA 1 _ _ (0, 0) hA
      have c2 : w8.cell? ⟨bB, 1, none⟩ = some (.int .i64 t2) := cell_of_row w8 bB 1 _ _ (0, 0) hB
      obtain ⟨x0, x1, x2, x3, x4⟩ := box5 (blk_keep HV0.out HB8.out)
      have hql : bq < w8.heap.size := by have := HB8.out.size; have := (Array.getElem?_eq_some_iff.1 HV0.out).1; omega
      have hAl : bA < w8.heap.size := (Array.getElem?_eq_some_iff.1 hA).1
      refine hK _ _ ?_
      clear hK hA hB hb8 g1 g2 hof2 hfd2 hnA hnB hne
      have hct : decide (t2 < t1) = false := decide_eq_false (by omega)
      by_cases hfit : q.b - ls - q.a < q.wd
      · have hdf := decide_eq_true hfit
        go_wp2_with (first
          | ((with_reducible refine store_new (dst := none) 24 (.tmp 13) (.tmp 53) _ _ #[.int .i64 q.a, .int .i64 q.b, .int .i64 q.wd, .int .i64 q.h, .int .i64 q.y] 24 rfl ?_ ?_ ?_ ?_ ?_ ?_); rfl; rfl; exact want12Info; rfl; (simp [Value.oneCell'])))
        go_ret
        exact ⟨rfl, Below.onto (Below.onto ((Below.refl w8.heap.size w8).alloc (Nat.le_refl _) _) HB8.out) HB0.out⟩
      · have hdf := decide_eq_false hfit
        obtain ⟨l3, t3, hle3, k3, hof3, hfd3⟩ := HM.out (by omega)
        have HOF3 := Lib.hid hof3
        have HFD3 := Lib.hid hfd3
        have HLE3 := Lib.hid hle3
        clear hof3 hfd3 hle3
        go_wp2_with (first
          | ((with_reducible refine store_new (dst := none) 24 (.tmp 13) (.tmp 53) _ _ #[.int .i64 q.a, .int .i64 q.b, .int .i64 q.wd, .int .i64 q.h, .int .i64 q.y] 24 rfl ?_ ?_ ?_ ?_ ?_ ?_); rfl; rfl; exact want12Info; rfl; (simp [Value.oneCell'])))
        obtain ⟨b13, hb13⟩ : ∃ b, w8.heap.size = b := ⟨_, rfl⟩
        obtain ⟨W9, hW9⟩ : ∃ W, w8.alloc (.cells #[.int .i64 q.a, .int .i64 (q.b - ls), .int .i64 q.wd, .int .i64 q.h, .int .i64 q.y] 24) = W := ⟨_, rfl⟩
        rw [hW9, hb13]
        have hb9 : Below w8.heap.size w8 W9 := by rw [← hW9]; exact (Below.refl w8.heap.size w8).alloc (Nat.le_refl _) _
        have g2 : W9.heap[b13]? = some (.cells #[.int .i64 q.a, .int .i64 (q.b - ls), .int .i64 q.wd, .int .i64 q.h, .int .i64 q.y] 24 (0, 0)) := by rw [← hW9, ← hb13]; exact heap_alloc_new w8 _
        have hA9 := blk_keep HA8.out hb9
        have HS9 := Lib.hid (HS8.out.below hb9 (Nat.le_refl _))
        have HB9 := Lib.hid (Below.onto hb9 HB8.out)
        have HK : Hid (∀ w', Below W9.heap.size W9 w' → Below W9.heap.size W9 w' ∧ w'.cell? ⟨bA, 1, none⟩ = some (.int .i64 t1) ∧ w'.cell? ⟨b13, 0, none⟩ = some (.int .i64 q.a) ∧ w'.cell? ⟨b13, 1, none⟩ = some (.int .i64 (q.b - ls)) ∧ w'.cell? ⟨b13, 2, none⟩ = some (.int .i64 q.wd) ∧ w'.cell? ⟨b13, 3, none⟩ = some (.int .i64 q.h) ∧ w'.cell? ⟨b13, 4, none⟩ = some (.int .i64 q.y)) := by
          intro w' hb
          have h2 := blk_keep g2 hb
          exact ⟨hb, cell_of_row w' bA 1 _ _ (0, 0) (blk_keep hA9 hb), cell_of_row w' b13 0 _ _ (0, 0) h2, cell_of_row w' b13 1 _ _ (0, 0) h2, cell_of_row w' b13 2 _ _ (0, 0) h2, cell_of_row w' b13 3 _ _ (0, 0) h2, cell_of_row w' b13 4 _ _ (0, 0) h2⟩
        clear hb9 g2 hA9 hW9 hb13 c1 c2 x0 x1 x2 x3 x4
        have HSK : Hid (∀ w', Below W9.heap.size W9 w' → SpaceIs w' W0.heap.size sp L) := fun w' hb => HS9.out.below hb (Nat.le_refl _)
        have hrf := fun w => rcF1 (.int .i64 l3) (.int .i64 t3) (.int .i64 (l3 + q.wd)) (.int .i64 (t3 + q.h)) w
        have hge := decide_eq_true HLE3.out
        go_region_held3 (fun w' => Below W9.heap.size W9 w' ∧ w'.cell? ⟨bA, 1, none⟩ = some (.int .i64 t1) ∧ w'.cell? ⟨b13, 0, none⟩ = some (.int .i64 q.a) ∧ w'.cell? ⟨b13, 1, none⟩ = some (.int .i64 (q.b - ls)) ∧ w'.cell? ⟨b13, 2, none⟩ = some (.int .i64 q.wd) ∧ w'.cell? ⟨b13, 3, none⟩ = some (.int .i64 q.h) ∧ w'.cell? ⟨b13, 4, none⟩ = some (.int .i64 q.y))
          (first | exact HK.out _ (Below.refl _ _) | exact HK.out _ ((Below.refl _ _).drew) | exact HK.out _ (Below.onto HBx.out (And.left (by assumption)))) (first
          | ((with_reducible refine (HOF3.out _).mono ?_); rintro e wx ⟨rfl, hbx⟩; have HBx := Lib.hid hbx; clear hbx)
          | ((with_reducible refine (HFD3.out _ sp _ (HSK.out _ (And.left (by assumption)))).mono ?_); rintro e wx ⟨rfl, hbx⟩; have HBx := Lib.hid hbx; clear hbx))
        rename_i hH
        have HG := Lib.hid (Below.onto hH.1 HB9.out)
        clear hH hrf
        go_wp2_with fail
        go_ret
        exact ⟨rfl, Below.onto HG.out HB0.out⟩
  · have hbg := fun w h => begin12_no (.slice A L.length cap0) L 30 w h hn hnm
    have HBG := Lib.hid hbg
    clear hbg hnm hn hri
    go_enter Try.func5, Try.ntmps5
    go_wp2_with fail
    rw [HW0.out, HBQ.out]
    refine (HBG.out _ HH0.out).mono ?_
    rintro e w1 ⟨rfl, hb1⟩
    have HB1 := Lib.hid hb1
    clear hb1
    go_wp2_with fail
    refine (speaks12_any _).mono ?_
    rintro e w2 ⟨rfl, hb2⟩
    have HB2 := Lib.hid (Below.onto hb2 HB1.out)
    clear hb2
    go_wp2_with fail
    refine (speaks12_any _).mono ?_
    rintro e w3 ⟨rfl, hb3⟩
    have HB3 := Lib.hid (Below.onto hb3 HB2.out)
    clear hb3
    go_wp2_with fail
    go_ret
    exact ⟨rfl, Below.onto HB3.out HB0.out⟩
end Go.Proofs.Ytnkbbobdhcloeaa
