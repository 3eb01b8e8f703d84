/- The law PlaceNarrow. -/
import Derived.Test.YtnkbbobdhcloeaaP7
import Derived.Test.YtnkbbobdhcloeaaPw
import Derived.Test.YtnkbbobdhcloeaaRx
namespace Go.Proofs.Ytnkbbobdhcloeaa
set_option linter.unusedSimpArgs false
set_option linter.unusedVariables false
open Go.RowKit
theorem want11InfoN : (Try.prog.info? 55).map (·.size) = some 7 := by kernel_rfl
theorem cf_of11N : ∀ (x : Value) (w : World), (callFunc 31 #[x]).run Try.prog w = .ok (.enter 31 #[x]) w := fun x w => by kernel_rfl
theorem cf_find11N : ∀ (x y : Value) (w : World), (callFunc 30 #[x, y]).run Try.prog w = .ok (.enter 30 #[x, y]) w := fun x y w => by kernel_rfl
set_option maxRecDepth 20000 in
set_option maxHeartbeats 8000000 in
theorem placeNarrow_any (L : List Fo) (v : Value) (q : Wp) (ls dn : Int) (w : World) (h : IsFos w v L) (hn : L.length ≤ maxLen) (hls : 0 ≤ ls ∧ ls ≤ 255) (hdn : 0 ≤ dn ∧ dn ≤ 255) : Calls Try.prog 11 #[v, .agg #[.int .i64 q.s, .int .i64 q.c, .int .i64 q.a, .int .i64 q.b, .int .i64 q.wd, .int .i64 q.h, .int .i64 q.y], .int .u8 ls, .int .u8 dn] w fun e w' => e = .returned (.bool true) ∧ Below w.heap.size w w' := by
  obtain ⟨A, cap0, rfl, hx1, hx2⟩ := id h
  clear hx1 hx2
  obtain ⟨W0, hW0⟩ : ∃ W, w.alloc (.cells #[.int .i64 q.s, .int .i64 q.c, .int .i64 q.a, .int .i64 q.b, .int .i64 q.wd, .int .i64 q.h, .int .i64 q.y] 55) = W := ⟨_, rfl⟩
  obtain ⟨bq, hbq⟩ : ∃ b, w.heap.size = b := ⟨_, rfl⟩
  have hv0 : W0.heap[bq]? = some (.cells #[.int .i64 q.s, .int .i64 q.c, .int .i64 q.a, .int .i64 q.b, .int .i64 q.wd, .int .i64 q.h, .int .i64 q.y] 55 (0, 0)) := by rw [← hW0, ← hbq]; exact heap_alloc_new w _
  have hb0 : Below w.heap.size w W0 := by rw [← hW0]; exact (Below.refl _ _).alloc (Nat.le_refl _) _
  have hh0 := h.below hb0 (Nat.le_refl _)
  have HW0 := Lib.hid hW0
  have HBQ := Lib.hid hbq
  have HV0 := Lib.hid hv0
  have HB0 := Lib.hid hb0
  have HH0 := Lib.hid hh0
  clear hW0 hbq hv0 hb0 hh0 h
  have hri := fun w => right11_any q w
  by_cases hnm : nearB L = true ∧ (L.length : Int) ≤ 30
  · have hl : L.length ≤ 100000 := by have := hnm.2; omega
    have hbg := fun w h => begin11_yes (.slice A L.length cap0) L 30 w h hl hnm.1 hnm.2
    unfold BegSpPost at hbg
    have HBG := Lib.hid hbg
    have HNB := Lib.hid hnm.1
    have HNL := Lib.hid hn
    have HLL := Lib.hid hl
    have HML := Lib.hid hnm.2
    clear hbg hnm hn hl
    cases hq : okWp q with
    | false =>
      rw [hq] at hri
      have HRI := Lib.hid hri
      clear hri hq
      go_enter Try.func11, Try.ntmps11
      go_wp2_with fail
      rw [HW0.out, HBQ.out]
      refine (HBG.out _ HH0.out).mono ?_
      rintro e w1 ⟨sp, rfl, hs1, hb1⟩
      have HS1 := Lib.hid hs1
      have HB1 := Lib.hid hb1
      clear hb1 hs1
      go_wp2_with fail
      refine (speaks11_any _).mono ?_
      rintro e w2 ⟨rfl, hb2⟩
      have HS2 := Lib.hid (HS1.out.below hb2 (Nat.le_refl _))
      have HB2 := Lib.hid (Below.onto hb2 HB1.out)
      obtain ⟨x0, x1, x2, x3, x4, x5, x6⟩ := boxP (keepB HV0.out HB2.out)
      clear hb2
      go_wp2_with fail
      refine (HRI.out _).mono ?_
      rintro e w3 ⟨rfl, hb3⟩
      have HS3 := Lib.hid (HS2.out.below hb3 (Nat.le_refl _))
      have HB3 := Lib.hid (Below.onto hb3 HB2.out)
      clear hb3 x0 x1 x2 x3 x4 x5 x6
      obtain ⟨x0, x1, x2, x3, x4, x5, x6⟩ := boxP (keepB HV0.out HB3.out)
      clear x0 x1 x2 x3 x4 x5 x6
      go_wp2_with fail
      refine (speaks11_any _).mono ?_
      rintro e w4 ⟨rfl, hb4⟩
      have HB4 := Lib.hid (Below.onto hb4 HB3.out)
      clear hb4
      go_wp2_with fail
      go_ret
      exact ⟨rfl, Below.onto HB4.out HB0.out⟩
    | true =>
      rw [hq] at hri
      have HRI := Lib.hid hri
      have HQ := Lib.hid hq
      clear hri hq
      by_cases hyy : 140737488355328 < q.y
      · have hdy := decide_eq_true hyy
        clear hyy
        go_enter Try.func11, Try.ntmps11
        go_wp2_with fail
        rw [HW0.out, HBQ.out]
        refine (HBG.out _ HH0.out).mono ?_
        rintro e w1 ⟨sp, rfl, hs1, hb1⟩
        have HS1 := Lib.hid hs1
        have HB1 := Lib.hid hb1
        clear hb1 hs1
        go_wp2_with fail
        refine (speaks11_any _).mono ?_
        rintro e w2 ⟨rfl, hb2⟩
        have HS2 := Lib.hid (HS1.out.below hb2 (Nat.le_refl _))
        have HB2 := Lib.hid (Below.onto hb2 HB1.out)
        obtain ⟨x0, x1, x2, x3, x4, x5, x6⟩ := boxP (keepB HV0.out HB2.out)
        clear hb2
        go_wp2_with fail
        refine (HRI.out _).mono ?_
        rintro e w3 ⟨rfl, hb3⟩
        have HS3 := Lib.hid (HS2.out.below hb3 (Nat.le_refl _))
        have HB3 := Lib.hid (Below.onto hb3 HB2.out)
        clear hb3 x0 x1 x2 x3 x4 x5 x6
        obtain ⟨x0, x1, x2, x3, x4, x5, x6⟩ := boxP (keepB HV0.out HB3.out)
        go_wp2_with fail
        refine (speaks11_any _).mono ?_
        rintro e w4 ⟨rfl, hb4⟩
        have HB4 := Lib.hid (Below.onto hb4 HB3.out)
        clear hb4
        go_wp2_with fail
        go_ret
        exact ⟨rfl, Below.onto HB4.out HB0.out⟩
      by_cases hyw : q.wd < 0
      · have hdy := decide_eq_false hyy
        have hdw := decide_eq_true hyw
        clear hyy hyw
        go_enter Try.func11, Try.ntmps11
        go_wp2_with fail
        rw [HW0.out, HBQ.out]
        refine (HBG.out _ HH0.out).mono ?_
        rintro e w1 ⟨sp, rfl, hs1, hb1⟩
        have HS1 := Lib.hid hs1
        have HB1 := Lib.hid hb1
        clear hb1 hs1
        go_wp2_with fail
        refine (speaks11_any _).mono ?_
        rintro e w2 ⟨rfl, hb2⟩
        have HS2 := Lib.hid (HS1.out.below hb2 (Nat.le_refl _))
        have HB2 := Lib.hid (Below.onto hb2 HB1.out)
        obtain ⟨x0, x1, x2, x3, x4, x5, x6⟩ := boxP (keepB HV0.out HB2.out)
        clear hb2
        go_wp2_with fail
        refine (HRI.out _).mono ?_
        rintro e w3 ⟨rfl, hb3⟩
        have HS3 := Lib.hid (HS2.out.below hb3 (Nat.le_refl _))
        have HB3 := Lib.hid (Below.onto hb3 HB2.out)
        clear hb3 x0 x1 x2 x3 x4 x5 x6
        obtain ⟨x0, x1, x2, x3, x4, x5, x6⟩ := boxP (keepB HV0.out HB3.out)
        go_wp2_with fail
        refine (speaks11_any _).mono ?_
        rintro e w4 ⟨rfl, hb4⟩
        have HB4 := Lib.hid (Below.onto hb4 HB3.out)
        clear hb4
        go_wp2_with fail
        go_ret
        exact ⟨rfl, Below.onto HB4.out HB0.out⟩
      have hdy := decide_eq_false hyy
      have hdw := decide_eq_false hyw
      obtain ⟨⟨ia, ib, iw, ih, iy⟩, i0, i1, i2, i3⟩ := okWp_at HQ.out
      have hof := fun w => of11_any q w
      have hfd := fun base sp w h => find_any11 L q base sp w h HNB.out HLL.out HQ.out
      unfold PFindPost at hfd
      obtain ⟨t1, ht1⟩ : ∃ t, topP L q = t := ⟨_, rfl⟩
      have hN : ∀ nd, 0 ≤ nd → nd ≤ q.wd → ∃ l2 t2, t2 ≤ t1 ∧ ∃ k2, (∀ w, Calls Try.prog 31 #[.agg #[.int .i64 q.s, .int .i64 q.c, .int .i64 q.a, .int .i64 q.b, .int .i64 (nd), .int .i64 q.h, .int .i64 (q.y)]] w fun e w' => e = .returned k2 ∧ Below w.heap.size w w') ∧
          ∀ base sp w, SpaceIs w base sp L → Calls Try.prog 30 #[.pointer (some ⟨sp, 0, none⟩), k2] w fun e w' => e = .returned (agg4 (l2, t2, l2 + nd, t2 + q.h)) ∧ Below w.heap.size w w' := by
        intro nd h1 h2
        have hok2 : okWp ⟨q.s, q.c, q.a, q.b, nd, q.h, q.y⟩ = true := by
          unfold okWp
          unfold in48 at *
          exact decide_eq_true (by simp only; omega)
        refine ⟨leftP L ⟨q.s, q.c, q.a, q.b, nd, q.h, q.y⟩ (topP L ⟨q.s, q.c, q.a, q.b, nd, q.h, q.y⟩), topP L ⟨q.s, q.c, q.a, q.b, nd, q.h, q.y⟩, ?_, _, fun w => of11_any ⟨q.s, q.c, q.a, q.b, nd, q.h, q.y⟩ w, fun base sp w h => find_any11 L ⟨q.s, q.c, q.a, q.b, nd, q.h, q.y⟩ base sp w h HNB.out HLL.out hok2⟩
        rw [← ht1]
        exact topP_le HNB.out hok2 HQ.out (startP_mono rfl (Int.le_refl _)) (fun z hz => soP_narrow h2 h1 i3 hz)
      have hL : ∃ l2 t2, t1 ≤ t2 ∧ ∃ k2, (∀ w, Calls Try.prog 31 #[.agg #[.int .i64 q.s, .int .i64 q.c, .int .i64 q.a, .int .i64 q.b, .int .i64 (q.wd), .int .i64 q.h, .int .i64 (q.y + dn)]] w fun e w' => e = .returned k2 ∧ Below w.heap.size w w') ∧
          ∀ base sp w, SpaceIs w base sp L → Calls Try.prog 30 #[.pointer (some ⟨sp, 0, none⟩), k2] w fun e w' => e = .returned (agg4 (l2, t2, l2 + q.wd, t2 + q.h)) ∧ Below w.heap.size w w' := by
        have hok2 : okWp ⟨q.s, q.c, q.a, q.b, q.wd, q.h, q.y + dn⟩ = true := by
          unfold okWp
          unfold in48 at *
          exact decide_eq_true (by simp only; omega)
        refine ⟨leftP L ⟨q.s, q.c, q.a, q.b, q.wd, q.h, q.y + dn⟩ (topP L ⟨q.s, q.c, q.a, q.b, q.wd, q.h, q.y + dn⟩), topP L ⟨q.s, q.c, q.a, q.b, q.wd, q.h, q.y + dn⟩, ?_, _, fun w => of11_any ⟨q.s, q.c, q.a, q.b, q.wd, q.h, q.y + dn⟩ w, fun base sp w h => find_any11 L ⟨q.s, q.c, q.a, q.b, q.wd, q.h, q.y + dn⟩ base sp w h HNB.out HLL.out hok2⟩
        rw [← ht1]
        exact topP_le HNB.out HQ.out hok2 (startP_mono rfl (show q.y ≤ q.y + dn by omega)) (fun z hz => hz)
      rw [ht1] at hfd
      obtain ⟨l1, hl1⟩ : ∃ t, leftP L q t1 = t := ⟨_, rfl⟩
      rw [hl1] at hfd
      unfold in48 at iw iy
      have HOF := Lib.hid hof
      have HFD := Lib.hid hfd
      have HN := Lib.hid hN
      have HL := Lib.hid hL
      clear hof hfd hN hL ht1 hl1 hyy i0 i1 i2 i3 ia ib ih
      go_enter Try.func11, Try.ntmps11
      go_wp2_with fail
      rw [HW0.out, HBQ.out]
      refine (HBG.out _ HH0.out).mono ?_
      rintro e w1 ⟨sp, rfl, hs1, hb1⟩
      have HS1 := Lib.hid hs1
      have HB1 := Lib.hid hb1
      clear hb1 hs1
      go_wp2_with fail
      refine (speaks11_any _).mono ?_
      rintro e w2 ⟨rfl, hb2⟩
      have HS2 := Lib.hid (HS1.out.below hb2 (Nat.le_refl _))
      have HB2 := Lib.hid (Below.onto hb2 HB1.out)
      obtain ⟨x0, x1, x2, x3, x4, x5, x6⟩ := boxP (keepB HV0.out HB2.out)
      clear hb2
      go_wp2_with fail
      refine (HRI.out _).mono ?_
      rintro e w3 ⟨rfl, hb3⟩
      have HS3 := Lib.hid (HS2.out.below hb3 (Nat.le_refl _))
      have HB3 := Lib.hid (Below.onto hb3 HB2.out)
      clear hb3 x0 x1 x2 x3 x4 x5 x6
      obtain ⟨x0, x1, x2, x3, x4, x5, x6⟩ := boxP (keepB HV0.out HB3.out)
      go_wp2_with fail
      rename_i K hK
      refine copies2_at 39 10 5 bq [.int .i64 q.s, .int .i64 q.c, .int .i64 q.a, .int .i64 q.b, .int .i64 q.wd, .int .i64 q.h, .int .i64 q.y] 55 55 _ [.int .i64 0, .int .i64 0, .int .i64 0, .int .i64 0, .int .i64 0, .int .i64 0, .int .i64 0]
        (by kernel_rfl) rfl (by kernel_rfl) ⟨⟨_, rfl, rfl, rfl, rfl⟩, ⟨_, rfl, rfl, rfl, rfl⟩, ⟨_, rfl, rfl, rfl, rfl⟩, ⟨_, rfl, rfl, rfl, rfl⟩, ⟨_, rfl, rfl, rfl, rfl⟩, ⟨_, rfl, rfl, rfl, rfl⟩⟩ (by kernel_rfl) (by decide) (by simp) (by decide) rfl rfl rfl Try.underlying55 rfl want11InfoN (by simp [Value.oneCell']) (fun w => by kernel_rfl) rfl rfl (keepB HV0.out HB3.out) ?_
      intro b0 b1 w4 g0 g1 n01 m0 m1 hb4
      have c04 : w4.cell? ⟨b0, 4, none⟩ = some (.int .i64 q.wd) := cell_of_row w4 b0 4 _ _ (0, 0) g0
      have c16 : w4.cell? ⟨b1, 6, none⟩ = some (.int .i64 q.y) := cell_of_row w4 b1 6 _ _ (0, 0) g1
      have f04 := frozen_of_row w4 b0 4 _ _ g0
      have f16 := frozen_of_row w4 b1 6 _ _ g1
      refine hK _ _ ?_
      clear hK x0 x1 x2 x3 x4 x5 x6
      have hgq := keepB (keepB HV0.out HB3.out) hb4
      obtain ⟨x0, x1, x2, x3, x4, x5, x6⟩ := boxP hgq
      have hne : bq ≠ b0 := by have := (Array.getElem?_eq_some_iff.1 (keepB HV0.out HB3.out)).1; omega
      go_wp2_with fail
      · rename_i K2 hK2
        obtain ⟨W6, hW6⟩ : ∃ W, (w4.setCell ⟨b0, 4, none⟩ (.int .i64 (q.wd - ls))).setCell ⟨b1, 6, none⟩ (.int .i64 (q.y + dn)) = W := ⟨_, rfl⟩
        rw [hW6]
        have e0 : W6.heap[b0]? = some (.cells #[.int .i64 q.s, .int .i64 q.c, .int .i64 q.a, .int .i64 q.b, .int .i64 (q.wd - ls), .int .i64 q.h, .int .i64 (q.y)] 55 (0, 0)) := by rw [← hW6]; exact (heap_setCell_other _ _ _ _ n01).trans (heap_setCell_same w4 b0 4 _ _ _ g0)
        have e1 : W6.heap[b1]? = some (.cells #[.int .i64 q.s, .int .i64 q.c, .int .i64 q.a, .int .i64 q.b, .int .i64 (q.wd), .int .i64 q.h, .int .i64 (q.y + dn)] 55 (0, 0)) := by rw [← hW6]; exact heap_setCell_same _ b1 6 _ _ _ ((heap_setCell_other _ _ _ _ (Ne.symm n01)).trans g1)
        have hb6 : Below w3.heap.size w3 W6 := by rw [← hW6]; exact Below.setCell (Below.setCell hb4 m0 _) m1 _
        have g3 := keepB (keepB HV0.out HB3.out) hb6
        have HS6 := Lib.hid (HS3.out.below hb6 (Nat.le_refl _))
        have HB6 := Lib.hid (Below.onto hb6 HB3.out)
        obtain ⟨l2, t2, hle, k2, hof2, hfd2⟩ := HN.out (q.wd - ls) (Int.sub_nonneg_of_le (Int.le_of_lt h)) (by omega)
        obtain ⟨l3, t3, hle3, k3, hof3, hfd3⟩ := HL.out
        clear hW6 hb6 hb4 c04 c16 f04 f16 g0 g1 n01 m0 m1 hgq hne x0 x1 x2 x3 x4 x5 x6
        refine three_at 54 12 9 5 10 11 bq b0 b1 (.pointer (some ⟨sp, 0, none⟩)) _ k2 k3 31 30 [.int .i64 q.s, .int .i64 q.c, .int .i64 q.a, .int .i64 q.b, .int .i64 q.wd, .int .i64 q.h, .int .i64 q.y] [.int .i64 q.s, .int .i64 q.c, .int .i64 q.a, .int .i64 q.b, .int .i64 (q.wd - ls), .int .i64 q.h, .int .i64 (q.y)] [.int .i64 q.s, .int .i64 q.c, .int .i64 q.a, .int .i64 q.b, .int .i64 (q.wd), .int .i64 q.h, .int .i64 (q.y + dn)] (l1, t1, l1 + q.wd, t1 + q.h) (l2, t2, l2 + (q.wd - ls), t2 + q.h) (l3, t3, l3 + q.wd, t3 + q.h) 55 25 59 55 _
          (by kernel_rfl) rfl (by kernel_rfl) ⟨⟨_, rfl, rfl, rfl, rfl⟩, ⟨_, rfl, rfl, rfl, rfl⟩, ⟨_, rfl, rfl, rfl, rfl⟩, ⟨_, rfl, rfl, rfl, rfl⟩, ⟨_, rfl, rfl, rfl, rfl⟩, ⟨_, rfl, rfl, rfl, rfl⟩, ⟨_, rfl, rfl, rfl, rfl⟩, ⟨_, rfl, rfl, rfl, rfl⟩, ⟨_, rfl, rfl, rfl, rfl⟩, ⟨_, rfl, rfl, rfl, rfl⟩, ⟨_, rfl, rfl, rfl, rfl⟩, ⟨_, rfl, rfl, rfl, rfl⟩, ⟨_, rfl, rfl, rfl, rfl⟩, ⟨_, rfl, rfl, rfl, rfl⟩, ⟨_, rfl, rfl, rfl, rfl⟩, ⟨_, rfl, rfl, rfl, rfl⟩, ⟨_, rfl, rfl, rfl, rfl⟩, ⟨_, rfl, rfl, rfl, rfl⟩⟩ (by kernel_rfl)
          cf_of11N cf_find11N (by decide) (by simp) (by decide) (by decide) (by decide) (by decide) rfl rfl rfl rfl rfl rfl rfl Try.underlying55 rfl want11InfoN want11InfoN want11InfoN
          g3 e0 e1 HOF.out hof2 hof3 (fun w hb => HFD.out _ sp w (HS6.out.below hb (Nat.le_refl _))) (fun w hb => hfd2 _ sp w (HS6.out.below hb (Nat.le_refl _))) (fun w hb => hfd3 _ sp w (HS6.out.below hb (Nat.le_refl _))) ?_
        intro bA bB bC w8 hA hB hC hb8
        have HB8 := Lib.hid (Below.onto hb8 HB6.out)
        have a1 : w8.cell? ⟨bA, 1, none⟩ = some (.int .i64 t1) := cell_of_row w8 bA 1 _ _ (0, 0) hA
        have a2 : w8.cell? ⟨bB, 1, none⟩ = some (.int .i64 t2) := cell_of_row w8 bB 1 _ _ (0, 0) hB
        have a3 : w8.cell? ⟨bC, 1, none⟩ = some (.int .i64 t3) := cell_of_row w8 bC 1 _ _ (0, 0) hC
        have hge := decide_eq_true hle
        have hgf := decide_eq_true hle3
        refine hK2 _ _ ?_
        clear hK2 hA hB hC hb8 e0 e1 g3 hof2 hfd2 hof3 hfd3
        go_wp2_with fail
        go_ret
        exact ⟨rfl, Below.onto HB8.out HB0.out⟩
      · rename_i K2 hK2
        obtain ⟨W6, hW6⟩ : ∃ W, (w4.setCell ⟨b0, 4, none⟩ (.int .i64 (0))).setCell ⟨b1, 6, none⟩ (.int .i64 (q.y + dn)) = W := ⟨_, rfl⟩
        rw [hW6]
        have e0 : W6.heap[b0]? = some (.cells #[.int .i64 q.s, .int .i64 q.c, .int .i64 q.a, .int .i64 q.b, .int .i64 (0), .int .i64 q.h, .int .i64 (q.y)] 55 (0, 0)) := by rw [← hW6]; exact (heap_setCell_other _ _ _ _ n01).trans (heap_setCell_same w4 b0 4 _ _ _ g0)
        have e1 : W6.heap[b1]? = some (.cells #[.int .i64 q.s, .int .i64 q.c, .int .i64 q.a, .int .i64 q.b, .int .i64 (q.wd), .int .i64 q.h, .int .i64 (q.y + dn)] 55 (0, 0)) := by rw [← hW6]; exact heap_setCell_same _ b1 6 _ _ _ ((heap_setCell_other _ _ _ _ (Ne.symm n01)).trans g1)
        have hb6 : Below w3.heap.size w3 W6 := by rw [← hW6]; exact Below.setCell (Below.setCell hb4 m0 _) m1 _
        have g3 := keepB (keepB HV0.out HB3.out) hb6
        have HS6 := Lib.hid (HS3.out.below hb6 (Nat.le_refl _))
        have HB6 := Lib.hid (Below.onto hb6 HB3.out)
        obtain ⟨l2, t2, hle, k2, hof2, hfd2⟩ := HN.out (0) (Int.le_refl 0) (by omega)
        obtain ⟨l3, t3, hle3, k3, hof3, hfd3⟩ := HL.out
        clear hW6 hb6 hb4 c04 c16 f04 f16 g0 g1 n01 m0 m1 hgq hne x0 x1 x2 x3 x4 x5 x6
        refine three_at 54 12 9 5 10 11 bq b0 b1 (.pointer (some ⟨sp, 0, none⟩)) _ k2 k3 31 30 [.int .i64 q.s, .int .i64 q.c, .int .i64 q.a, .int .i64 q.b, .int .i64 q.wd, .int .i64 q.h, .int .i64 q.y] [.int .i64 q.s, .int .i64 q.c, .int .i64 q.a, .int .i64 q.b, .int .i64 (0), .int .i64 q.h, .int .i64 (q.y)] [.int .i64 q.s, .int .i64 q.c, .int .i64 q.a, .int .i64 q.b, .int .i64 (q.wd), .int .i64 q.h, .int .i64 (q.y + dn)] (l1, t1, l1 + q.wd, t1 + q.h) (l2, t2, l2 + (0), t2 + q.h) (l3, t3, l3 + q.wd, t3 + q.h) 55 25 59 55 _
          (by kernel_rfl) rfl (by kernel_rfl) ⟨⟨_, rfl, rfl, rfl, rfl⟩, ⟨_, rfl, rfl, rfl, rfl⟩, ⟨_, rfl, rfl, rfl, rfl⟩, ⟨_, rfl, rfl, rfl, rfl⟩, ⟨_, rfl, rfl, rfl, rfl⟩, ⟨_, rfl, rfl, rfl, rfl⟩, ⟨_, rfl, rfl, rfl, rfl⟩, ⟨_, rfl, rfl, rfl, rfl⟩, ⟨_, rfl, rfl, rfl, rfl⟩, ⟨_, rfl, rfl, rfl, rfl⟩, ⟨_, rfl, rfl, rfl, rfl⟩, ⟨_, rfl, rfl, rfl, rfl⟩, ⟨_, rfl, rfl, rfl, rfl⟩, ⟨_, rfl, rfl, rfl, rfl⟩, ⟨_, rfl, rfl, rfl, rfl⟩, ⟨_, rfl, rfl, rfl, rfl⟩, ⟨_, rfl, rfl, rfl, rfl⟩, ⟨_, rfl, rfl, rfl, rfl⟩⟩ (by kernel_rfl)
          cf_of11N cf_find11N (by decide) (by simp) (by decide) (by decide) (by decide) (by decide) rfl rfl rfl rfl rfl rfl rfl Try.underlying55 rfl want11InfoN want11InfoN want11InfoN
          g3 e0 e1 HOF.out hof2 hof3 (fun w hb => HFD.out _ sp w (HS6.out.below hb (Nat.le_refl _))) (fun w hb => hfd2 _ sp w (HS6.out.below hb (Nat.le_refl _))) (fun w hb => hfd3 _ sp w (HS6.out.below hb (Nat.le_refl _))) ?_
        intro bA bB bC w8 hA hB hC hb8
        have HB8 := Lib.hid (Below.onto hb8 HB6.out)
        have a1 : w8.cell? ⟨bA, 1, none⟩ = some (.int .i64 t1) := cell_of_row w8 bA 1 _ _ (0, 0) hA
        have a2 : w8.cell? ⟨bB, 1, none⟩ = some (.int .i64 t2) := cell_of_row w8 bB 1 _ _ (0, 0) hB
        have a3 : w8.cell? ⟨bC, 1, none⟩ = some (.int .i64 t3) := cell_of_row w8 bC 1 _ _ (0, 0) hC
        have hge := decide_eq_true hle
        have hgf := decide_eq_true hle3
        refine hK2 _ _ ?_
        clear hK2 hA hB hC hb8 e0 e1 g3 hof2 hfd2 hof3 hfd3
        go_wp2_with fail
        go_ret
        exact ⟨rfl, Below.onto HB8.out HB0.out⟩
  · have hbg := fun w h => begin11_no (.slice A L.length cap0) L 30 w h hn hnm
    have HBG := Lib.hid hbg
    clear hbg hnm hn hri
    go_enter Try.func11, Try.ntmps11
    go_wp2_with fail
    rw [HW0.out, HBQ.out]
    refine (HBG.out _ HH0.out).mono ?_
    rintro e w1 ⟨rfl, hb1⟩
    have HB1 := Lib.hid hb1
    clear hb1
    go_wp2_with fail
    refine (speaks11_any _).mono ?_
    rintro e w2 ⟨rfl, hb2⟩
    have HB2 := Lib.hid (Below.onto hb2 HB1.out)
    clear hb2
    go_wp2_with fail
    refine (speaks11_any _).mono ?_
    rintro e w3 ⟨rfl, hb3⟩
    have HB3 := Lib.hid (Below.onto hb3 HB2.out)
    clear hb3
    go_wp2_with fail
    go_ret
    exact ⟨rfl, Below.onto HB3.out HB0.out⟩
end Go.Proofs.Ytnkbbobdhcloeaa
