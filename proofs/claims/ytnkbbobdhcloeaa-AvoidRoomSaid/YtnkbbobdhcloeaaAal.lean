/- The law AvoidAlone. -/
import Derived.Test.YtnkbbobdhcloeaaAap
import Derived.Test.YtnkbbobdhcloeaaRw2
namespace Go.Proofs.Ytnkbbobdhcloeaa
set_option linter.unusedSimpArgs false
set_option linter.unusedVariables false
open Go.RowKit
theorem want12Info : (Try.prog.info? 24).map (·.size) = some 5 := by kernel_rfl
theorem cf_of12 : ∀ (x : Value) (w : World), (callFunc 19 #[x]).run Try.prog w = .ok (.enter 19 #[x]) w := fun x w => by kernel_rfl
theorem cf_find12 : ∀ (x y : Value) (w : World), (callFunc 18 #[x, y]).run Try.prog w = .ok (.enter 18 #[x, y]) w := fun x y w => by kernel_rfl
set_option maxRecDepth 20000 in
set_option maxHeartbeats 8000000 in
theorem avoidAlone_any (L : List Fo) (v : Value) (q : Wa) (ls : Int) (w : World) (h : IsFos w v L) (hn : L.length ≤ maxLen) (hls : 0 ≤ ls ∧ ls ≤ 255) : Calls Try.prog 4 #[v, .agg #[.int .i64 q.a, .int .i64 q.b, .int .i64 q.wd, .int .i64 q.h, .int .i64 q.y], .int .u8 ls] w fun e w' => e = .returned (.bool true) ∧ Below w.heap.size w w' := by
  obtain ⟨A, cap0, rfl, hx1, hx2⟩ := id h
  clear hx1 hx2
  obtain ⟨W0, hW0⟩ : ∃ W, w.alloc (.cells #[.int .i64 q.a, .int .i64 q.b, .int .i64 q.wd, .int .i64 q.h, .int .i64 q.y] 24) = W := ⟨_, rfl⟩
  obtain ⟨bq, hbq⟩ : ∃ b, w.heap.size = b := ⟨_, rfl⟩
  have hv0 : W0.heap[bq]? = some (.cells #[.int .i64 q.a, .int .i64 q.b, .int .i64 q.wd, .int .i64 q.h, .int .i64 q.y] 24 (0, 0)) := by rw [← hW0, ← hbq]; exact heap_alloc_new w _
  have hb0 : Below w.heap.size w W0 := by rw [← hW0]; exact (Below.refl _ _).alloc (Nat.le_refl _) _
  have hh0 := h.below hb0 (Nat.le_refl _)
  have HW0 := Lib.hid hW0
  have HBQ := Lib.hid hbq
  have HV0 := Lib.hid hv0
  have HB0 := Lib.hid hb0
  have HH0 := Lib.hid hh0
  clear hW0 hbq hv0 hb0 hh0 h
  have hri := fun w => right12_any q w
  have hnw := fun w => spnew_any w
  unfold NewSpPost at hnw
  have HNW := Lib.hid hnw
  clear hnw
  by_cases hnm : nearB L = true ∧ (L.length : Int) ≤ 30
  · have hl : L.length ≤ 100000 := by have := hnm.2; omega
    have hbg := fun w h => begin12_yes (.slice A L.length cap0) L 30 w h hl hnm.1 hnm.2
    unfold BegSpPost at hbg
    have HBG := Lib.hid hbg
    have HNB := Lib.hid hnm.1
    have HNL := Lib.hid hn
    have HLL := Lib.hid hl
    clear hbg hnm hn hl
    cases hq : okWa q with
    | false =>
      rw [hq] at hri
      have HRI := Lib.hid hri
      clear hri hq
      go_enter Try.func4, Try.ntmps4
      go_wp2_with fail
      rw [HW0.out, HBQ.out]
      refine (HBG.out _ HH0.out).mono ?_
      rintro e w1 ⟨sp, rfl, hs1, hb1⟩
      have HB1 := Lib.hid hb1
      clear hb1 hs1
      go_wp2_with fail
      refine (HNW.out w1).mono ?_
      rintro e w1b ⟨sp2, rfl, hs1, hb1⟩
      have HB1b := Lib.hid (Below.onto hb1 HB1.out)
      clear hb1 hs1
      go_wp2_with fail
      refine (speaks12_any _).mono ?_
      rintro e w2 ⟨rfl, hb2⟩
      have HB2 := Lib.hid (Below.onto hb2 HB1b.out)
      obtain ⟨x0, x1, x2, x3, x4⟩ := box5 (blk_keep HV0.out HB2.out)
      clear hb2
      go_wp2_with fail
      refine (HRI.out _).mono ?_
      rintro e w3 ⟨rfl, hb3⟩
      have HB3 := Lib.hid (Below.onto hb3 HB2.out)
      clear hb3 x0 x1 x2 x3 x4
      go_wp2_with fail
      refine (speaks12_any _).mono ?_
      rintro e w4 ⟨rfl, hb4⟩
      have HB4 := Lib.hid (Below.onto hb4 HB3.out)
      clear hb4
      go_wp2_with fail
      go_ret
      exact ⟨rfl, Below.onto HB4.out HB0.out⟩
    | true =>
      rw [hq] at hri
      have HRI := Lib.hid hri
      have HQ := Lib.hid hq
      clear hri hq
      obtain ⟨⟨ia, ib, iw, ih, iy⟩, i0⟩ := okWa_at HQ.out
      have hof := fun w => of12_any q w
      have hfd := fun base sp w h => find_any12 L q base sp w h HNB.out HLL.out HQ.out
      have hfn := fun base sp w h => find_any12 [] q base sp w h rfl (by decide) HQ.out
      unfold FindPost at hfd hfn
      rw [(topA_none HQ.out).1, (topA_none HQ.out).2] at hfn
      obtain ⟨t1, ht1⟩ : ∃ t, topA L q = t := ⟨_, rfl⟩
      have hN : ∀ nd, 0 ≤ nd → nd ≤ q.wd → ∃ l2 t2, t2 ≤ t1 ∧ ∃ k2, (∀ w, Calls Try.prog 19 #[.agg #[.int .i64 q.a, .int .i64 q.b, .int .i64 nd, .int .i64 q.h, .int .i64 q.y]] w fun e w' => e = .returned k2 ∧ Below w.heap.size w w') ∧
          ∀ base sp w, SpaceIs w base sp L → Calls Try.prog 18 #[.pointer (some ⟨sp, 0, none⟩), k2] w fun e w' => e = .returned (agg4 (l2, t2, l2 + nd, t2 + q.h)) ∧ Below w.heap.size w w' := by
        intro nd h1 h2
        have hok2 : okWa ⟨q.a, q.b, nd, q.h, q.y⟩ = true := by
          unfold okWa
          unfold in48 at *
          exact decide_eq_true (by simp only; omega)
        refine ⟨leftA L ⟨q.a, q.b, nd, q.h, q.y⟩ (topA L ⟨q.a, q.b, nd, q.h, q.y⟩), topA L ⟨q.a, q.b, nd, q.h, q.y⟩, ?_, _, fun w => of12_any ⟨q.a, q.b, nd, q.h, q.y⟩ w, fun base sp w h => find_any12 L ⟨q.a, q.b, nd, q.h, q.y⟩ base sp w h HNB.out HLL.out hok2⟩
        rw [← ht1]
        exact topA_le (near_low HNB.out) hok2 HQ.out (Int.le_refl _) (fun z hz => soA_narrow h2 hz)
      rw [ht1] at hfd
      obtain ⟨l1, hl1⟩ : ∃ t, leftA L q t1 = t := ⟨_, rfl⟩
      rw [hl1] at hfd
      unfold in48 at iw
      have HOF := Lib.hid hof
      have HFD := Lib.hid hfd
      have HFN := Lib.hid hfn
      have HN := Lib.hid hN
      clear hof hfd hfn hN ht1 hl1 ia ib ih iy
      go_enter Try.func4, Try.ntmps4
      go_wp2_with fail
      rw [HW0.out, HBQ.out]
      refine (HBG.out _ HH0.out).mono ?_
      rintro e w1 ⟨sp, rfl, hs1, hb1⟩
      have HS1 := Lib.hid hs1
      have HB1 := Lib.hid hb1
      clear hb1 hs1
      go_wp2_with fail
      refine (HNW.out w1).mono ?_
      rintro e w1b ⟨sp2, rfl, hs1b, hb1⟩
      have HS1b := Lib.hid (HS1.out.below hb1 (Nat.le_refl _))
      have HN1b := Lib.hid hs1b
      have HB1b := Lib.hid (Below.onto hb1 HB1.out)
      clear hb1 hs1b
      go_wp2_with fail
      refine (speaks12_any _).mono ?_
      rintro e w2 ⟨rfl, hb2⟩
      have HS2 := Lib.hid (HS1b.out.below hb2 (Nat.le_refl _))
      have HN2 := Lib.hid (HN1b.out.below hb2 (Nat.le_refl _))
      have HB2 := Lib.hid (Below.onto hb2 HB1b.out)
      obtain ⟨x0, x1, x2, x3, x4⟩ := box5 (blk_keep HV0.out HB2.out)
      clear hb2
      go_wp2_with fail
      refine (HRI.out _).mono ?_
      rintro e w3 ⟨rfl, hb3⟩
      have HS3 := Lib.hid (HS2.out.below hb3 (Nat.le_refl _))
      have HN3 := Lib.hid (HN2.out.below hb3 (Nat.le_refl _))
      have HB3 := Lib.hid (Below.onto hb3 HB2.out)
      clear hb3 x0 x1 x2 x3 x4
      obtain ⟨x0, x1, x2, x3, x4⟩ := box5 (blk_keep HV0.out HB3.out)
      go_wp2_with fail
      refine (HOF.out _).mono ?_
      rintro e w4 ⟨rfl, hb4⟩
      have HS4 := Lib.hid (HS3.out.below hb4 (Nat.le_refl _))
      have HN4 := Lib.hid (HN3.out.below hb4 (Nat.le_refl _))
      have HB4 := Lib.hid (Below.onto hb4 HB3.out)
      clear hb4 x0 x1 x2 x3 x4
      go_wp2_with fail
      refine (HFN.out _ sp2 w4 HN4.out).mono ?_
      rintro e w5 ⟨rfl, hb5⟩
      have HB5 := Lib.hid (Below.onto hb5 HB4.out)
      have HS5 := Lib.hid (HS4.out.below hb5 (Nat.le_refl _))
      clear hb5
      obtain ⟨x0, x1, x2, x3, x4⟩ := box5 (blk_keep HV0.out HB5.out)
      have hql : bq < w5.heap.size := by have := HB5.out.size; have := (Array.getElem?_eq_some_iff.1 HV0.out).1; omega
      obtain ⟨W6, hW6⟩ : ∃ W, w5.alloc (.cells #[.int .i64 q.a, .int .i64 q.y, .int .i64 (q.a + q.wd), .int .i64 (q.y + q.h)] 30) = W := ⟨_, rfl⟩
      obtain ⟨bR, hbR⟩ : ∃ b, w5.heap.size = b := ⟨_, rfl⟩
      have HW6 := Lib.hid hW6
      have HBR := Lib.hid hbR
      clear hW6 hbR
      go_wp2_with (first
        | ((with_reducible refine store_new (dst := none) 30 (.tmp 9) (.tmp 35) w5 _ #[.int .i64 q.a, .int .i64 q.y, .int .i64 (q.a + q.wd), .int .i64 (q.y + q.h)] 30 rfl ?_ ?_ ?_ ?_ ?_ ?_); rfl; rfl; exact rectInfo; rfl; (simp [Value.oneCell']))
        | ((with_reducible refine store_new (dst := none) 24 (.tmp 10) (.tmp 48) _ _ #[.int .i64 q.a, .int .i64 q.b, .int .i64 q.wd, .int .i64 q.h, .int .i64 q.y] 24 rfl ?_ ?_ ?_ ?_ ?_ ?_); rfl; rfl; exact want12Info; rfl; (simp [Value.oneCell'])))
      · rename_i K hK
        obtain ⟨l2, t2, hle, k2, hof2, hfd2⟩ := HN.out (q.wd - ls) (Int.sub_nonneg_of_le (Int.le_of_lt h)) (by omega)
        rw [HW6.out]
        have hb6 : Below w5.heap.size w5 W6 := by rw [← HW6.out]; exact (Below.refl _ _).alloc (Nat.le_refl _) _
        have hz6 : w5.heap.size + 1 = W6.heap.size := by rw [← HW6.out]; simp
        rw [hz6]
        obtain ⟨W7, hW7⟩ : ∃ W, W6.alloc (.cells #[.int .i64 q.a, .int .i64 q.b, .int .i64 (q.wd - ls), .int .i64 q.h, .int .i64 q.y] 24) = W := ⟨_, rfl⟩
        rw [hW7]
        have hb7 : Below w5.heap.size w5 W7 := by rw [← hW7]; exact Below.onto ((Below.refl W6.heap.size W6).alloc (Nat.le_refl _) _) hb6
        have g1 : W7.heap[bq]? = some (.cells #[.int .i64 q.a, .int .i64 q.b, .int .i64 q.wd, .int .i64 q.h, .int .i64 q.y] 24 (0, 0)) := blk_keep (blk_keep HV0.out HB5.out) hb7
        have g2 : W7.heap[W6.heap.size]? = some (.cells #[.int .i64 q.a, .int .i64 q.b, .int .i64 (q.wd - ls), .int .i64 q.h, .int .i64 q.y] 24 (0, 0)) := by rw [← hW7]; exact heap_alloc_new W6 _
        have hs7 := HS5.out.below hb7 (Nat.le_refl _)
        have HB7 := Lib.hid (Below.onto hb7 HB5.out)
        clear hb7 hb6 hz6 hW7
        refine two_at 56 11 7 7 4 10 bq W6.heap.size (.pointer (some ⟨sp, 0, none⟩)) (.pointer (some ⟨sp, 0, none⟩)) _ k2 19 18 [.int .i64 q.a, .int .i64 q.b, .int .i64 q.wd, .int .i64 q.h, .int .i64 q.y] [.int .i64 q.a, .int .i64 q.b, .int .i64 (q.wd - ls), .int .i64 q.h, .int .i64 q.y] (l1, t1, l1 + q.wd, t1 + q.h) (l2, t2, l2 + (q.wd - ls), t2 + q.h) 24 25 35 24 24 _
          (by kernel_rfl) rfl (by kernel_rfl) ⟨⟨_, rfl, rfl, rfl, rfl⟩, ⟨_, rfl, rfl, rfl, rfl⟩, ⟨_, rfl, rfl, rfl, rfl⟩, ⟨_, rfl, rfl, rfl, rfl⟩, ⟨_, rfl, rfl, rfl, rfl⟩, ⟨_, rfl, rfl, rfl, rfl⟩, ⟨_, rfl, rfl, rfl, rfl⟩, ⟨_, rfl, rfl, rfl, rfl⟩, ⟨_, rfl, rfl, rfl, rfl⟩, ⟨_, rfl, rfl, rfl, rfl⟩, ⟨_, rfl, rfl, rfl, rfl⟩, ⟨_, rfl, rfl, rfl, rfl⟩⟩ (by kernel_rfl)
          cf_of12 cf_find12 (by decide) (by simp) (by decide) (by decide) (by decide) (by decide) rfl rfl rfl rfl rfl rfl Try.underlying24 rfl want12Info want12Info
          g1 g2 HOF.out hof2 (fun w hb => HFD.out _ sp w (hs7.below hb (Nat.le_refl _))) (fun w hb => hfd2 _ sp w (hs7.below hb (Nat.le_refl _))) ?_
        intro bA bB w8 hA hB hne hnA hnB hb8
        have HB8 := Lib.hid (Below.onto hb8 HB7.out)
        have c1 : w8.cell? ⟨bA, 1, none⟩ = some (.int .i64 t1) := cell_of_row w8 bA 1 _ _ (0, 0) hA
        have c2 : w8.cell? ⟨bB, 1, none⟩ = some (.int .i64 t2) := cell_of_row w8 bB 1 _ _ (0, 0) hB
        refine hK _ _ ?_
        clear hK hA hB hb8 g1 g2 hs7 hof2 hfd2 hnA hnB hne
        go_wp2_with fail
        go_ret
        exact ⟨rfl, Below.onto HB8.out HB0.out⟩
      · rename_i K hK
        obtain ⟨l2, t2, hle, k2, hof2, hfd2⟩ := HN.out (0) (Int.le_refl 0) (by omega)
        rw [HW6.out]
        have hb6 : Below w5.heap.size w5 W6 := by rw [← HW6.out]; exact (Below.refl _ _).alloc (Nat.le_refl _) _
        have hz6 : w5.heap.size + 1 = W6.heap.size := by rw [← HW6.out]; simp
        rw [hz6]
        obtain ⟨W7, hW7⟩ : ∃ W, W6.alloc (.cells #[.int .i64 q.a, .int .i64 q.b, .int .i64 (0), .int .i64 q.h, .int .i64 q.y] 24) = W := ⟨_, rfl⟩
        rw [hW7]
        have hb7 : Below w5.heap.size w5 W7 := by rw [← hW7]; exact Below.onto ((Below.refl W6.heap.size W6).alloc (Nat.le_refl _) _) hb6
        have g1 : W7.heap[bq]? = some (.cells #[.int .i64 q.a, .int .i64 q.b, .int .i64 q.wd, .int .i64 q.h, .int .i64 q.y] 24 (0, 0)) := blk_keep (blk_keep HV0.out HB5.out) hb7
        have g2 : W7.heap[W6.heap.size]? = some (.cells #[.int .i64 q.a, .int .i64 q.b, .int .i64 (0), .int .i64 q.h, .int .i64 q.y] 24 (0, 0)) := by rw [← hW7]; exact heap_alloc_new W6 _
        have hs7 := HS5.out.below hb7 (Nat.le_refl _)
        have HB7 := Lib.hid (Below.onto hb7 HB5.out)
        clear hb7 hb6 hz6 hW7
        refine two_at 56 11 7 7 4 10 bq W6.heap.size (.pointer (some ⟨sp, 0, none⟩)) (.pointer (some ⟨sp, 0, none⟩)) _ k2 19 18 [.int .i64 q.a, .int .i64 q.b, .int .i64 q.wd, .int .i64 q.h, .int .i64 q.y] [.int .i64 q.a, .int .i64 q.b, .int .i64 (0), .int .i64 q.h, .int .i64 q.y] (l1, t1, l1 + q.wd, t1 + q.h) (l2, t2, l2 + (0), t2 + q.h) 24 25 35 24 24 _
          (by kernel_rfl) rfl (by kernel_rfl) ⟨⟨_, rfl, rfl, rfl, rfl⟩, ⟨_, rfl, rfl, rfl, rfl⟩, ⟨_, rfl, rfl, rfl, rfl⟩, ⟨_, rfl, rfl, rfl, rfl⟩, ⟨_, rfl, rfl, rfl, rfl⟩, ⟨_, rfl, rfl, rfl, rfl⟩, ⟨_, rfl, rfl, rfl, rfl⟩, ⟨_, rfl, rfl, rfl, rfl⟩, ⟨_, rfl, rfl, rfl, rfl⟩, ⟨_, rfl, rfl, rfl, rfl⟩, ⟨_, rfl, rfl, rfl, rfl⟩, ⟨_, rfl, rfl, rfl, rfl⟩⟩ (by kernel_rfl)
          cf_of12 cf_find12 (by decide) (by simp) (by decide) (by decide) (by decide) (by decide) rfl rfl rfl rfl rfl rfl Try.underlying24 rfl want12Info want12Info
          g1 g2 HOF.out hof2 (fun w hb => HFD.out _ sp w (hs7.below hb (Nat.le_refl _))) (fun w hb => hfd2 _ sp w (hs7.below hb (Nat.le_refl _))) ?_
        intro bA bB w8 hA hB hne hnA hnB hb8
        have HB8 := Lib.hid (Below.onto hb8 HB7.out)
        have c1 : w8.cell? ⟨bA, 1, none⟩ = some (.int .i64 t1) := cell_of_row w8 bA 1 _ _ (0, 0) hA
        have c2 : w8.cell? ⟨bB, 1, none⟩ = some (.int .i64 t2) := cell_of_row w8 bB 1 _ _ (0, 0) hB
        refine hK _ _ ?_
        clear hK hA hB hb8 g1 g2 hs7 hof2 hfd2 hnA hnB hne
        go_wp2_with fail
        go_ret
        exact ⟨rfl, Below.onto HB8.out HB0.out⟩
  · have hbg := fun w h => begin12_no (.slice A L.length cap0) L 30 w h hn hnm
    have HBG := Lib.hid hbg
    clear hbg hnm hn hri
    go_enter Try.func4, Try.ntmps4
    go_wp2_with fail
    rw [HW0.out, HBQ.out]
    refine (HBG.out _ HH0.out).mono ?_
    rintro e w1 ⟨rfl, hb1⟩
    have HB1 := Lib.hid hb1
    clear hb1
    go_wp2_with fail
    refine (HNW.out w1).mono ?_
    rintro e w1b ⟨sp2, rfl, hs1, hb1⟩
    have HB1b := Lib.hid (Below.onto hb1 HB1.out)
    clear hb1 hs1
    go_wp2_with fail
    refine (speaks12_any _).mono ?_
    rintro e w2 ⟨rfl, hb2⟩
    have HB2 := Lib.hid (Below.onto hb2 HB1b.out)
    clear hb2
    go_wp2_with fail
    refine (speaks12_any _).mono ?_
    rintro e w3 ⟨rfl, hb3⟩
    have HB3 := Lib.hid (Below.onto hb3 HB2.out)
    clear hb3
    go_wp2_with fail
    go_ret
    exact ⟨rfl, Below.onto HB3.out HB0.out⟩
end Go.Proofs.Ytnkbbobdhcloeaa
