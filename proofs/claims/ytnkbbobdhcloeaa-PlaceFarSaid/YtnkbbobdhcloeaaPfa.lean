/- The law PlaceFar. -/
import Derived.Test.YtnkbbobdhcloeaaP7
import Derived.Test.YtnkbbobdhcloeaaPw
namespace Go.Proofs.Ytnkbbobdhcloeaa
set_option linter.unusedSimpArgs false
set_option linter.unusedVariables false
open Go.RowKit
/-- The ways at the left. -/
theorem farl_cases (wd a b p1 p2 lv rt : Int) (hs : wd ≤ min b p2 - max a p1 ∨ (b - a < wd ∧ p1 ≤ a ∧ a + wd ≤ p2)) (hl : lv = max a p1) (hr : lv + wd = rt) :
    (p1 ≤ a ∧ lv = a ∧ b ≤ p2 ∧ decide (rt ≤ b) = true) ∨ (p1 ≤ a ∧ lv = a ∧ p2 < b ∧ decide (rt ≤ p2) = true) ∨ (a < p1 ∧ lv = p1 ∧ b ≤ p2 ∧ decide (rt ≤ b) = true) ∨ (a < p1 ∧ lv = p1 ∧ p2 < b ∧ decide (rt ≤ p2) = true) ∨
    (p1 ≤ a ∧ lv = a ∧ b ≤ p2 ∧ decide (rt ≤ b) = false ∧ decide (b - a < wd) = true) := by
  simp only [decide_eq_true_eq, decide_eq_false_iff_not]
  omega
/-- At the right. -/
theorem farr_cases (wd a b p1 p2 lv rt : Int) (hs : wd ≤ min b p2 - max a p1 ∨ (b - a < wd ∧ p1 ≤ b - wd ∧ b ≤ p2)) (hl : lv = min b p2 - wd) (hr : lv + wd = rt) :
    (b ≤ p2 ∧ rt = b ∧ p1 ≤ a ∧ decide (a ≤ lv) = true) ∨ (b ≤ p2 ∧ rt = b ∧ a < p1 ∧ decide (p1 ≤ lv) = true) ∨ (p2 < b ∧ rt = p2 ∧ p1 ≤ a ∧ decide (a ≤ lv) = true) ∨ (p2 < b ∧ rt = p2 ∧ a < p1 ∧ decide (p1 ≤ lv) = true) ∨
    (b ≤ p2 ∧ rt = b ∧ p1 ≤ a ∧ decide (a ≤ lv) = false ∧ decide (b - a < wd) = true) := by
  simp only [decide_eq_true_eq, decide_eq_false_iff_not]
  omega
set_option maxRecDepth 20000 in
set_option maxHeartbeats 8000000 in
theorem placeFar_any (L : List Fo) (v : Value) (q : Wp) (w : World) (h : IsFos w v L) (hn : L.length ≤ maxLen) : Calls Try.prog 10 #[v, .agg #[.int .i64 q.s, .int .i64 q.c, .int .i64 q.a, .int .i64 q.b, .int .i64 q.wd, .int .i64 q.h, .int .i64 q.y]] w fun e w' => e = .returned (.bool true) ∧ Below w.heap.size w w' := by
  obtain ⟨A, cap0, rfl, hx1, hx2⟩ := id h
  clear hx1 hx2
  obtain ⟨W0, hW0⟩ : ∃ W, w.alloc (.cells #[.int .i64 q.s, .int .i64 q.c, .int .i64 q.a, .int .i64 q.b, .int .i64 q.wd, .int .i64 q.h, .int .i64 q.y] 55) = W := ⟨_, rfl⟩
  obtain ⟨bq, hbq⟩ : ∃ b, w.heap.size = b := ⟨_, rfl⟩
  have hv0 : W0.heap[bq]? = some (.cells #[.int .i64 q.s, .int .i64 q.c, .int .i64 q.a, .int .i64 q.b, .int .i64 q.wd, .int .i64 q.h, .int .i64 q.y] 55 (0, 0)) := by rw [← hW0, ← hbq]; exact heap_alloc_new w _
  have hb0 : Below w.heap.size w W0 := by rw [← hW0]; exact (Below.refl _ _).alloc (Nat.le_refl _) _
  have hh0 := h.below hb0 (Nat.le_refl _)
  have HW0 := Lib.hid hW0
  have HBQ := Lib.hid hbq
  have HV0 := Lib.hid hv0
  have HB0 := Lib.hid hb0
  have HH0 := Lib.hid hh0
  clear hW0 hbq hv0 hb0 hh0 h
  have hri := fun w => right11_any q w
  by_cases hnm : nearB L = true ∧ (L.length : Int) ≤ 30
  · have hl : L.length ≤ 100000 := by have := hnm.2; omega
    have hbg := fun w h => begin11_yes (.slice A L.length cap0) L 30 w h hl hnm.1 hnm.2
    unfold BegSpPost at hbg
    have HBG := Lib.hid hbg
    have HNB := Lib.hid hnm.1
    have HNL := Lib.hid hn
    have HLL := Lib.hid hl
    have HML := Lib.hid hnm.2
    clear hbg hnm hn hl
    cases hq : okWp q with
    | false =>
      rw [hq] at hri
      have HRI := Lib.hid hri
      clear hri hq
      go_enter Try.func10, Try.ntmps10
      go_wp2_with fail
      rw [HW0.out, HBQ.out]
      refine (HBG.out _ HH0.out).mono ?_
      rintro e w1 ⟨sp, rfl, hs1, hb1⟩
      have HS1 := Lib.hid hs1
      have HB1 := Lib.hid hb1
      clear hb1 hs1
      go_wp2_with fail
      refine (speaks11_any _).mono ?_
      rintro e w2 ⟨rfl, hb2⟩
      have HS2 := Lib.hid (HS1.out.below hb2 (Nat.le_refl _))
      have HB2 := Lib.hid (Below.onto hb2 HB1.out)
      obtain ⟨x0, x1, x2, x3, x4, x5, x6⟩ := boxP (keepB HV0.out HB2.out)
      clear hb2
      go_wp2_with fail
      refine (HRI.out _).mono ?_
      rintro e w3 ⟨rfl, hb3⟩
      have HS3 := Lib.hid (HS2.out.below hb3 (Nat.le_refl _))
      have HB3 := Lib.hid (Below.onto hb3 HB2.out)
      clear hb3 x0 x1 x2 x3 x4 x5 x6
      obtain ⟨x0, x1, x2, x3, x4, x5, x6⟩ := boxP (keepB HV0.out HB3.out)
      clear x0 x1 x2 x3 x4 x5 x6
      go_wp2_with fail
      refine (speaks11_any _).mono ?_
      rintro e w4 ⟨rfl, hb4⟩
      have HB4 := Lib.hid (Below.onto hb4 HB3.out)
      clear hb4
      go_wp2_with fail
      go_ret
      exact ⟨rfl, Below.onto HB4.out HB0.out⟩
    | true =>
      rw [hq] at hri
      have HRI := Lib.hid hri
      have HQ := Lib.hid hq
      clear hri hq
      have hof := fun w => of11_any q w
      have hfd := fun base sp w h => find_any11 L q base sp w h HNB.out HLL.out HQ.out
      have hfs := (topP_first HNB.out HQ.out).2.1
      have hti := topP_in HNB.out HQ.out
      have hli := leftP_in (y := topP L q) HNB.out HQ.out
      have hok : SpOk L := ⟨near_low HNB.out, HLL.out⟩
      have hed := bnds_edge (fun f hf => near_small (nearB_at HNB.out f hf)) (topP L q) q.h
      obtain ⟨⟨ia, ib, iw, ih, iy⟩, i0, i1, i2, i3⟩ := okWp_at HQ.out
      unfold in48 at ia ib iw ih
      have hg := hgh_pos q.h
      have hg2 : hgh q.h ≤ 281474976710656 := by unfold hgh; omega
      unfold PFindPost at hfd
      obtain ⟨tp, htp⟩ : ∃ t, topP L q = t := ⟨_, rfl⟩
      rw [htp] at hfd hfs hti hli hed
      have hrw := fun w => srows_any tp q.h w (by omega) (by omega)
      have hbd := fun base sp w h => bounds10_any L tp (tp + hgh q.h) base sp w h hok (by unfold Mid; omega) (by unfold Mid; omega) (by unfold far; omega)
      unfold SpanPost at hrw hbd
      obtain ⟨lv, hlv⟩ : ∃ t, leftP L q tp = t := ⟨_, rfl⟩
      rw [hlv] at hfd hli
      obtain ⟨rt, hrt⟩ : ∃ t, lv + q.wd = t := ⟨_, rfl⟩
      obtain ⟨bt, hbt⟩ : ∃ t, tp + q.h = t := ⟨_, rfl⟩
      rw [hrt, hbt] at hfd
      unfold leftP freeS at hlv
      unfold soP freeS at hfs
      unfold bnds at hfs hlv hed
      obtain ⟨yb, hyb⟩ : ∃ b, tp + hgh q.h = b := ⟨_, rfl⟩
      rw [hyb] at hbd hed hfs hlv
      simp only [hyb] at hrw
      generalize band L tp yb = p at *
      obtain ⟨p1, p2⟩ := p
      simp only at hbd hed hfs hlv
      unfold far at hed
      have hfs := of_decide_eq_true hfs
      have HOF := Lib.hid hof
      have HFD := Lib.hid hfd
      have HRW := Lib.hid hrw
      have HBD := Lib.hid hbd
      clear hof hfd hrw hbd htp hbt hok hg hg2 ih iy i1 i2 hyb
      by_cases hsd : q.s = 1
      · have hds : (q.s == 1) = true := by simp [hsd]
        unfold atS at hfs hlv
        rw [if_pos hsd] at hfs hlv
        simp only at hfs hlv
        rcases farl_cases q.wd q.a q.b p1 p2 lv rt hfs hlv.symm hrt with ⟨d1, e1, d2, d3⟩ | ⟨d1, e1, d2, d3⟩ | ⟨d1, e1, d2, d3⟩ | ⟨d1, e1, d2, d3⟩ | ⟨d1, e1, d2, d3, d4⟩
        all_goals
          have HQA := Lib.hid ((beq_iff_eq (a := lv) (b := _)).2 e1)
          have HDS := Lib.hid hds
          clear hfs hlv e1 hds hsd
          go_enter Try.func10, Try.ntmps10
          go_wp2_with fail
          rw [HW0.out, HBQ.out]
          refine (HBG.out _ HH0.out).mono ?_
          rintro e w1 ⟨sp, rfl, hs1, hb1⟩
          have HS1 := Lib.hid hs1
          have HB1 := Lib.hid hb1
          clear hb1 hs1
          go_wp2_with fail
          refine (speaks11_any _).mono ?_
          rintro e w2 ⟨rfl, hb2⟩
          have HS2 := Lib.hid (HS1.out.below hb2 (Nat.le_refl _))
          have HB2 := Lib.hid (Below.onto hb2 HB1.out)
          obtain ⟨x0, x1, x2, x3, x4, x5, x6⟩ := boxP (keepB HV0.out HB2.out)
          clear hb2
          go_wp2_with fail
          refine (HRI.out _).mono ?_
          rintro e w3 ⟨rfl, hb3⟩
          have HS3 := Lib.hid (HS2.out.below hb3 (Nat.le_refl _))
          have HB3 := Lib.hid (Below.onto hb3 HB2.out)
          clear hb3 x0 x1 x2 x3 x4 x5 x6
          obtain ⟨x0, x1, x2, x3, x4, x5, x6⟩ := boxP (keepB HV0.out HB3.out)
          go_wp2_with fail
          refine (HOF.out _).mono ?_
          rintro e w4 ⟨rfl, hb4⟩
          have HS4 := Lib.hid (HS3.out.below hb4 (Nat.le_refl _))
          have HB4 := Lib.hid (Below.onto hb4 HB3.out)
          clear hb4 x0 x1 x2 x3 x4 x5 x6
          go_wp2_with fail
          refine (HFD.out _ sp w4 HS4.out).mono ?_
          rintro e w5 ⟨rfl, hb5⟩
          have HB5 := Lib.hid (Below.onto hb5 HB4.out)
          have HS5 := Lib.hid (HS4.out.below hb5 (Nat.le_refl _))
          clear hb5
          obtain ⟨x0, x1, x2, x3, x4, x5, x6⟩ := boxP (keepB HV0.out HB5.out)
          have hql : bq < w5.heap.size := by have := HB5.out.size; have := (Array.getElem?_eq_some_iff.1 HV0.out).1; omega
          obtain ⟨W6, hW6⟩ : ∃ W, w5.alloc (.cells #[.int .i64 lv, .int .i64 tp, .int .i64 rt, .int .i64 bt] 30) = W := ⟨_, rfl⟩
          obtain ⟨bR, hbR⟩ : ∃ b, w5.heap.size = b := ⟨_, rfl⟩
          have hv6 : W6.heap[bR]? = some (.cells #[.int .i64 lv, .int .i64 tp, .int .i64 rt, .int .i64 bt] 30 (0, 0)) := by rw [← hW6, ← hbR]; exact heap_alloc_new w5 _
          have hb56 : Below w5.heap.size w5 W6 := by rw [← hW6]; exact (Below.refl _ _).alloc (Nat.le_refl _) _
          have HS6 := Lib.hid (HS5.out.below hb56 (Nat.le_refl _))
          clear hb56
          have HB6 := Lib.hid (show Below W0.heap.size W0 W6 by rw [← hW6]; exact HB5.out.alloc HB5.out.size _)
          have HV6 := Lib.hid hv6
          have HW6 := Lib.hid hW6
          have HBR := Lib.hid hbR
          clear hv6 hW6 hbR
          go_wp2_with (first
            | ((with_reducible refine store_new (dst := none) 30 (.tmp 6) (.tmp 25) w5 _ #[.int .i64 lv, .int .i64 tp, .int .i64 rt, .int .i64 bt] 30 rfl ?_ ?_ ?_ ?_ ?_ ?_); rfl; rfl; exact rectInfo; rfl; (simp [Value.oneCell'])))
          rw [HW6.out, HBR.out]
          clear x0 x1 x2 x3 x4 x5 x6 hql
          refine (HRW.out W6).mono ?_
          rintro e w7 ⟨rfl, hb7⟩
          have HS7 := Lib.hid (HS6.out.below hb7 (Nat.le_refl _))
          have HB7 := Lib.hid (Below.onto hb7 HB6.out)
          have HV7 := Lib.hid (keepB HV6.out hb7)
          clear hb7
          go_wp2_with fail
          refine (HBD.out _ sp w7 HS7.out).mono ?_
          rintro e w8 ⟨rfl, hb8⟩
          have HB8 := Lib.hid (Below.onto hb8 HB7.out)
          have HV8 := Lib.hid (keepB HV7.out hb8)
          clear hb8
          obtain ⟨x0, x1, x2, x3, x4, x5, x6⟩ := boxP (keepB HV0.out HB8.out)
          obtain ⟨u0, u1, u2, u3⟩ := box4v HV8.out
          have hql : bq < w8.heap.size := by have := HB8.out.size; have := (Array.getElem?_eq_some_iff.1 HV0.out).1; omega
          have hRl : bR < w8.heap.size := (Array.getElem?_eq_some_iff.1 HV8.out).1
          have hqa := HQA.out
          have hds := HDS.out
          go_wp2_with (first
            | ((with_reducible refine store_new (dst := none) 33 (.tmp 7) (.tmp 32) w8 _ #[.int .i64 p1, .int .i64 p2] 33 rfl ?_ ?_ ?_ ?_ ?_ ?_); rfl; rfl; exact spanInfoP; rfl; (simp [Value.oneCell'])))
          all_goals
            first
            | (exfalso; omega)
            | (go_ret; exact ⟨rfl, Below.onto (Below.onto ((Below.refl w8.heap.size w8).alloc (Nat.le_refl _) _) HB8.out) HB0.out⟩)
      · have hds : (q.s == 1) = false := by simp [hsd]
        unfold atS at hfs hlv
        rw [if_neg hsd] at hfs hlv
        simp only at hfs hlv
        rcases farr_cases q.wd q.a q.b p1 p2 lv rt hfs hlv.symm hrt with ⟨d1, e1, d2, d3⟩ | ⟨d1, e1, d2, d3⟩ | ⟨d1, e1, d2, d3⟩ | ⟨d1, e1, d2, d3⟩ | ⟨d1, e1, d2, d3, d4⟩
        all_goals
          have HQA := Lib.hid ((beq_iff_eq (a := rt) (b := _)).2 e1)
          have HDS := Lib.hid hds
          clear hfs hlv e1 hds hsd
          go_enter Try.func10, Try.ntmps10
          go_wp2_with fail
          rw [HW0.out, HBQ.out]
          refine (HBG.out _ HH0.out).mono ?_
          rintro e w1 ⟨sp, rfl, hs1, hb1⟩
          have HS1 := Lib.hid hs1
          have HB1 := Lib.hid hb1
          clear hb1 hs1
          go_wp2_with fail
          refine (speaks11_any _).mono ?_
          rintro e w2 ⟨rfl, hb2⟩
          have HS2 := Lib.hid (HS1.out.below hb2 (Nat.le_refl _))
          have HB2 := Lib.hid (Below.onto hb2 HB1.out)
          obtain ⟨x0, x1, x2, x3, x4, x5, x6⟩ := boxP (keepB HV0.out HB2.out)
          clear hb2
          go_wp2_with fail
          refine (HRI.out _).mono ?_
          rintro e w3 ⟨rfl, hb3⟩
          have HS3 := Lib.hid (HS2.out.below hb3 (Nat.le_refl _))
          have HB3 := Lib.hid (Below.onto hb3 HB2.out)
          clear hb3 x0 x1 x2 x3 x4 x5 x6
          obtain ⟨x0, x1, x2, x3, x4, x5, x6⟩ := boxP (keepB HV0.out HB3.out)
          go_wp2_with fail
          refine (HOF.out _).mono ?_
          rintro e w4 ⟨rfl, hb4⟩
          have HS4 := Lib.hid (HS3.out.below hb4 (Nat.le_refl _))
          have HB4 := Lib.hid (Below.onto hb4 HB3.out)
          clear hb4 x0 x1 x2 x3 x4 x5 x6
          go_wp2_with fail
          refine (HFD.out _ sp w4 HS4.out).mono ?_
          rintro e w5 ⟨rfl, hb5⟩
          have HB5 := Lib.hid (Below.onto hb5 HB4.out)
          have HS5 := Lib.hid (HS4.out.below hb5 (Nat.le_refl _))
          clear hb5
          obtain ⟨x0, x1, x2, x3, x4, x5, x6⟩ := boxP (keepB HV0.out HB5.out)
          have hql : bq < w5.heap.size := by have := HB5.out.size; have := (Array.getElem?_eq_some_iff.1 HV0.out).1; omega
          obtain ⟨W6, hW6⟩ : ∃ W, w5.alloc (.cells #[.int .i64 lv, .int .i64 tp, .int .i64 rt, .int .i64 bt] 30) = W := ⟨_, rfl⟩
          obtain ⟨bR, hbR⟩ : ∃ b, w5.heap.size = b := ⟨_, rfl⟩
          have hv6 : W6.heap[bR]? = some (.cells #[.int .i64 lv, .int .i64 tp, .int .i64 rt, .int .i64 bt] 30 (0, 0)) := by rw [← hW6, ← hbR]; exact heap_alloc_new w5 _
          have hb56 : Below w5.heap.size w5 W6 := by rw [← hW6]; exact (Below.refl _ _).alloc (Nat.le_refl _) _
          have HS6 := Lib.hid (HS5.out.below hb56 (Nat.le_refl _))
          clear hb56
          have HB6 := Lib.hid (show Below W0.heap.size W0 W6 by rw [← hW6]; exact HB5.out.alloc HB5.out.size _)
          have HV6 := Lib.hid hv6
          have HW6 := Lib.hid hW6
          have HBR := Lib.hid hbR
          clear hv6 hW6 hbR
          go_wp2_with (first
            | ((with_reducible refine store_new (dst := none) 30 (.tmp 6) (.tmp 25) w5 _ #[.int .i64 lv, .int .i64 tp, .int .i64 rt, .int .i64 bt] 30 rfl ?_ ?_ ?_ ?_ ?_ ?_); rfl; rfl; exact rectInfo; rfl; (simp [Value.oneCell'])))
          rw [HW6.out, HBR.out]
          clear x0 x1 x2 x3 x4 x5 x6 hql
          refine (HRW.out W6).mono ?_
          rintro e w7 ⟨rfl, hb7⟩
          have HS7 := Lib.hid (HS6.out.below hb7 (Nat.le_refl _))
          have HB7 := Lib.hid (Below.onto hb7 HB6.out)
          have HV7 := Lib.hid (keepB HV6.out hb7)
          clear hb7
          go_wp2_with fail
          refine (HBD.out _ sp w7 HS7.out).mono ?_
          rintro e w8 ⟨rfl, hb8⟩
          have HB8 := Lib.hid (Below.onto hb8 HB7.out)
          have HV8 := Lib.hid (keepB HV7.out hb8)
          clear hb8
          obtain ⟨x0, x1, x2, x3, x4, x5, x6⟩ := boxP (keepB HV0.out HB8.out)
          obtain ⟨u0, u1, u2, u3⟩ := box4v HV8.out
          have hql : bq < w8.heap.size := by have := HB8.out.size; have := (Array.getElem?_eq_some_iff.1 HV0.out).1; omega
          have hRl : bR < w8.heap.size := (Array.getElem?_eq_some_iff.1 HV8.out).1
          have hqa := HQA.out
          have hds := HDS.out
          go_wp2_with (first
            | ((with_reducible refine store_new (dst := none) 33 (.tmp 7) (.tmp 32) w8 _ #[.int .i64 p1, .int .i64 p2] 33 rfl ?_ ?_ ?_ ?_ ?_ ?_); rfl; rfl; exact spanInfoP; rfl; (simp [Value.oneCell'])))
          all_goals
            first
            | (exfalso; omega)
            | (go_ret; exact ⟨rfl, Below.onto (Below.onto ((Below.refl w8.heap.size w8).alloc (Nat.le_refl _) _) HB8.out) HB0.out⟩)
  · have hbg := fun w h => begin11_no (.slice A L.length cap0) L 30 w h hn hnm
    have HBG := Lib.hid hbg
    clear hbg hnm hn hri
    go_enter Try.func10, Try.ntmps10
    go_wp2_with fail
    rw [HW0.out, HBQ.out]
    refine (HBG.out _ HH0.out).mono ?_
    rintro e w1 ⟨rfl, hb1⟩
    have HB1 := Lib.hid hb1
    clear hb1
    go_wp2_with fail
    refine (speaks11_any _).mono ?_
    rintro e w2 ⟨rfl, hb2⟩
    have HB2 := Lib.hid (Below.onto hb2 HB1.out)
    clear hb2
    go_wp2_with fail
    refine (speaks11_any _).mono ?_
    rintro e w3 ⟨rfl, hb3⟩
    have HB3 := Lib.hid (Below.onto hb3 HB2.out)
    clear hb3
    go_wp2_with fail
    go_ret
    exact ⟨rfl, Below.onto HB3.out HB0.out⟩
end Go.Proofs.Ytnkbbobdhcloeaa
