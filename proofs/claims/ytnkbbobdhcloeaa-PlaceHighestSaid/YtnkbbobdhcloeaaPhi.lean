/- The law PlaceHighest. -/
import Derived.Test.YtnkbbobdhcloeaaP7
import Derived.Test.YtnkbbobdhcloeaaP4
namespace Go.Proofs.Ytnkbbobdhcloeaa
set_option linter.unusedSimpArgs false
set_option linter.unusedVariables false
open Go.RowKit
set_option maxRecDepth 20000 in
set_option maxHeartbeats 8000000 in
theorem placeHighest_any (L : List Fo) (v : Value) (q : Wp) (w : World) (h : IsFos w v L) (hn : L.length ≤ maxLen) : Calls Try.prog 9 #[v, .agg #[.int .i64 q.s, .int .i64 q.c, .int .i64 q.a, .int .i64 q.b, .int .i64 q.wd, .int .i64 q.h, .int .i64 q.y]] w fun e w' => e = .returned (.bool true) ∧ Below w.heap.size w w' := by
  obtain ⟨A, cap0, rfl, hx1, hx2⟩ := id h
  clear hx1 hx2
  obtain ⟨W0, hW0⟩ : ∃ W, w.alloc (.cells #[.int .i64 q.s, .int .i64 q.c, .int .i64 q.a, .int .i64 q.b, .int .i64 q.wd, .int .i64 q.h, .int .i64 q.y] 55) = W := ⟨_, rfl⟩
  obtain ⟨bq, hbq⟩ : ∃ b, w.heap.size = b := ⟨_, rfl⟩
  have hv0 : W0.heap[bq]? = some (.cells #[.int .i64 q.s, .int .i64 q.c, .int .i64 q.a, .int .i64 q.b, .int .i64 q.wd, .int .i64 q.h, .int .i64 q.y] 55 (0, 0)) := by rw [← hW0, ← hbq]; exact heap_alloc_new w _
  have hb0 : Below w.heap.size w W0 := by rw [← hW0]; exact (Below.refl _ _).alloc (Nat.le_refl _) _
  have hh0 := h.below hb0 (Nat.le_refl _)
  have HW0 := Lib.hid hW0
  have HBQ := Lib.hid hbq
  have HV0 := Lib.hid hv0
  have HB0 := Lib.hid hb0
  have HH0 := Lib.hid hh0
  clear hW0 hbq hv0 hb0 hh0 h
  have hri := fun w => right11_any q w
  by_cases hnm : nearB L = true ∧ (L.length : Int) ≤ 20
  · have hl : L.length ≤ 100000 := by have := hnm.2; omega
    have hbg := fun w h => begin11_yes (.slice A L.length cap0) L 20 w h hl hnm.1 hnm.2
    unfold BegSpPost at hbg
    have HBG := Lib.hid hbg
    have HNB := Lib.hid hnm.1
    have HNL := Lib.hid hn
    have HLL := Lib.hid hl
    have HML := Lib.hid hnm.2
    clear hbg hnm hn hl
    cases hq : okWp q with
    | false =>
      rw [hq] at hri
      have HRI := Lib.hid hri
      clear hri hq
      go_enter Try.func9, Try.ntmps9
      go_wp2_with fail
      rw [HW0.out, HBQ.out]
      refine (HBG.out _ HH0.out).mono ?_
      rintro e w1 ⟨sp, rfl, hs1, hb1⟩
      have HS1 := Lib.hid hs1
      have HB1 := Lib.hid hb1
      clear hb1 hs1
      go_wp2_with fail
      refine (speaks11_any _).mono ?_
      rintro e w2 ⟨rfl, hb2⟩
      have HS2 := Lib.hid (HS1.out.below hb2 (Nat.le_refl _))
      have HB2 := Lib.hid (Below.onto hb2 HB1.out)
      obtain ⟨x0, x1, x2, x3, x4, x5, x6⟩ := boxP (keepB HV0.out HB2.out)
      clear hb2
      go_wp2_with fail
      refine (HRI.out _).mono ?_
      rintro e w3 ⟨rfl, hb3⟩
      have HS3 := Lib.hid (HS2.out.below hb3 (Nat.le_refl _))
      have HB3 := Lib.hid (Below.onto hb3 HB2.out)
      clear hb3 x0 x1 x2 x3 x4 x5 x6
      obtain ⟨x0, x1, x2, x3, x4, x5, x6⟩ := boxP (keepB HV0.out HB3.out)
      clear x0 x1 x2 x3 x4 x5 x6
      go_wp2_with fail
      refine (speaks11_any _).mono ?_
      rintro e w4 ⟨rfl, hb4⟩
      have HB4 := Lib.hid (Below.onto hb4 HB3.out)
      clear hb4
      go_wp2_with fail
      go_ret
      exact ⟨rfl, Below.onto HB4.out HB0.out⟩
    | true =>
      rw [hq] at hri
      have HRI := Lib.hid hri
      have HQ := Lib.hid hq
      clear hri hq
      have hsd : ∀ f ∈ L, f.s = 1 ∨ f.s = 2 := fun f hf => (nearF_at (nearB_at HNB.out f hf)).2.2.2.2
      have hof := fun w => of11_any q w
      have hfd := fun base sp w h => find_any11 L q base sp w h HNB.out HLL.out HQ.out
      have hst := fun base sp w h => start_any L q base sp w h hsd
      have hfs := topP_first HNB.out HQ.out
      have hti := topP_in HNB.out HQ.out
      have hsi := startP_in HNB.out HQ.out
      have hli := leftP_in (y := topP L q) HNB.out HQ.out
      have hat := fun y w h (hy : -4503599627370496 ≤ y ∧ y ≤ 2251799813685248) => rat11_any L (.slice A L.length cap0) q y w h HNL.out (fun f hf => near_small (nearB_at HNB.out f hf)) HQ.out hy
      obtain ⟨⟨ia, ib, iw, ih, iy⟩, i0⟩ := okWp_at HQ.out
      unfold in48 at iw ih
      clear ia ib iy i0
      unfold PFindPost at hfd
      unfold PAtPost at hat
      unfold IntPost at hst
      obtain ⟨tp, htp⟩ : ∃ t, topP L q = t := ⟨_, rfl⟩
      rw [htp] at hfd hfs hti hli
      obtain ⟨lv, hlv⟩ : ∃ t, leftP L q tp = t := ⟨_, rfl⟩
      rw [hlv] at hfd hli
      obtain ⟨st, hsv⟩ : ∃ t, startP L q = t := ⟨_, rfl⟩
      rw [hsv] at hst hfs hsi
      have hat1 := fun w h => hat tp w h (by omega)
      rw [hfs.2.1, if_pos rfl, hlv] at hat1
      have hat2 : ∀ y w, st ≤ y → y < tp → IsFos w (.slice A L.length cap0) L → Calls Try.prog 33 #[.slice A L.length cap0, .agg #[.int .i64 q.s, .int .i64 q.c, .int .i64 q.a, .int .i64 q.b, .int .i64 q.wd, .int .i64 q.h, .int .i64 q.y], .int .i64 y] w fun e w' => e = .returned (.tuple #[.int .i64 0, .bool false]) ∧ Below w.heap.size w w' := by
        intro y w h1 h2 hw
        have h3 : soP L q y = false := by
          cases hs : soP L q y with
          | false => rfl
          | true => have := hfs.2.2 y h1 hs; omega
        have h4 := hat y w hw (by omega)
        rw [h3] at h4
        exact h4
      obtain ⟨rt, hrt⟩ : ∃ t, lv + q.wd = t := ⟨_, rfl⟩
      obtain ⟨bt, hbt⟩ : ∃ t, tp + q.h = t := ⟨_, rfl⟩
      rw [hrt, hbt] at hfd
      have hrw : rt - lv = q.wd := by omega
      have hbw : bt - tp = q.h := by omega
      have hrb : -4503599627370496 ≤ rt ∧ rt ≤ 4503599627370496 := by omega
      have hbb : -4503599627370496 ≤ bt ∧ bt ≤ 4503599627370496 := by omega
      have HOF := Lib.hid hof
      have HFD := Lib.hid hfd
      have HST := Lib.hid hst
      have HA1 := Lib.hid hat1
      have HA2 := Lib.hid hat2
      have hqt : st ≤ tp := hfs.1
      clear hof hfd hst hat hat1 hat2 hfs htp hlv hsv hrt hbt hsd iw ih
      go_enter Try.func9, Try.ntmps9
      go_wp2_with fail
      rw [HW0.out, HBQ.out]
      refine (HBG.out _ HH0.out).mono ?_
      rintro e w1 ⟨sp, rfl, hs1, hb1⟩
      have HS1 := Lib.hid hs1
      have HB1 := Lib.hid hb1
      clear hb1 hs1
      go_wp2_with fail
      refine (speaks11_any _).mono ?_
      rintro e w2 ⟨rfl, hb2⟩
      have HS2 := Lib.hid (HS1.out.below hb2 (Nat.le_refl _))
      have HB2 := Lib.hid (Below.onto hb2 HB1.out)
      obtain ⟨x0, x1, x2, x3, x4, x5, x6⟩ := boxP (keepB HV0.out HB2.out)
      clear hb2
      go_wp2_with fail
      refine (HRI.out _).mono ?_
      rintro e w3 ⟨rfl, hb3⟩
      have HS3 := Lib.hid (HS2.out.below hb3 (Nat.le_refl _))
      have HB3 := Lib.hid (Below.onto hb3 HB2.out)
      clear hb3 x0 x1 x2 x3 x4 x5 x6
      obtain ⟨x0, x1, x2, x3, x4, x5, x6⟩ := boxP (keepB HV0.out HB3.out)
      go_wp2_with fail
      refine (HOF.out _).mono ?_
      rintro e w4 ⟨rfl, hb4⟩
      have HS4 := Lib.hid (HS3.out.below hb4 (Nat.le_refl _))
      have HB4 := Lib.hid (Below.onto hb4 HB3.out)
      clear hb4 x0 x1 x2 x3 x4 x5 x6
      go_wp2_with fail
      refine (HFD.out _ sp w4 HS4.out).mono ?_
      rintro e w5 ⟨rfl, hb5⟩
      have HB5 := Lib.hid (Below.onto hb5 HB4.out)
      have HS5 := Lib.hid (HS4.out.below hb5 (Nat.le_refl _))
      clear hb5
      obtain ⟨x0, x1, x2, x3, x4, x5, x6⟩ := boxP (keepB HV0.out HB5.out)
      have hql : bq < w5.heap.size := by have := HB5.out.size; have := (Array.getElem?_eq_some_iff.1 HV0.out).1; omega
      obtain ⟨W6, hW6⟩ : ∃ W, w5.alloc (.cells #[.int .i64 lv, .int .i64 tp, .int .i64 rt, .int .i64 bt] 30) = W := ⟨_, rfl⟩
      obtain ⟨bR, hbR⟩ : ∃ b, w5.heap.size = b := ⟨_, rfl⟩
      have hv6 : W6.heap[bR]? = some (.cells #[.int .i64 lv, .int .i64 tp, .int .i64 rt, .int .i64 bt] 30 (0, 0)) := by rw [← hW6, ← hbR]; exact heap_alloc_new w5 _
      have hb56 : Below w5.heap.size w5 W6 := by rw [← hW6]; exact (Below.refl _ _).alloc (Nat.le_refl _) _
      have HS6 := Lib.hid (HS5.out.below hb56 (Nat.le_refl _))
      clear hb56
      have HB6 := Lib.hid (show Below W0.heap.size W0 W6 by rw [← hW6]; exact HB5.out.alloc HB5.out.size _)
      have HV6 := Lib.hid hv6
      have HW6 := Lib.hid hW6
      have HBR := Lib.hid hbR
      clear hv6 hW6 hbR
      go_wp2_with (first
        | ((with_reducible refine store_new (dst := none) 30 (.tmp 6) (.tmp 30) w5 _ #[.int .i64 lv, .int .i64 tp, .int .i64 rt, .int .i64 bt] 30 rfl ?_ ?_ ?_ ?_ ?_ ?_); rfl; rfl; exact rectInfo; rfl; (simp [Value.oneCell'])))
      rw [HW6.out, HBR.out]
      clear x0 x1 x2 x3 x4 x5 x6 hql
      refine (HOF.out W6).mono ?_
      rintro e w7 ⟨rfl, hb7⟩
      have HS7 := Lib.hid (HS6.out.below hb7 (Nat.le_refl _))
      have HB7 := Lib.hid (Below.onto hb7 HB6.out)
      have HV7 := Lib.hid (keepB HV6.out hb7)
      clear hb7
      go_wp2_with fail
      refine (HST.out _ sp w7 HS7.out).mono ?_
      rintro e w8 ⟨rfl, hb8⟩
      have HB8 := Lib.hid (Below.onto hb8 HB7.out)
      have HV8 := Lib.hid (keepB HV7.out hb8)
      clear hb8
      obtain ⟨x0, x1, x2, x3, x4, x5, x6⟩ := boxP (keepB HV0.out HB8.out)
      obtain ⟨u0, u1, u2, u3⟩ := box4v HV8.out
      go_wp2_with fail
      refine (HA1.out _ (HH0.out.below HB8.out (Nat.le_refl _))).mono ?_
      rintro e w9 ⟨rfl, hb9⟩
      have HB9 := Lib.hid (Below.onto hb9 HB8.out)
      have HV9 := Lib.hid (keepB HV8.out hb9)
      clear hb9 u0 u1 u2 u3 x0 x1 x2 x3 x4 x5 x6
      obtain ⟨u0, u1, u2, u3⟩ := box4v HV9.out
      go_wp2_with fail
      clear u0 u1 u2 u3
      go_loopw [10] (fun x wr => ∃ y : Int, x = .int .i64 y ∧ st ≤ y ∧ y ≤ tp ∧ Hid (Below w9.heap.size w9 wr)) (fun x _ => (tp - intOf x).toNat)
      case atStart => exact ⟨st, rfl, Int.le_refl _, hqt, Lib.hid (Below.refl _ _)⟩
      case round =>
        obtain ⟨y, rfl, hy1, hy2, hI⟩ := hrel
        have hBI := Below.onto hI.out HB9.out
        have hvi := keepB HV9.out hI.out
        have u1 : wr.cell? ⟨bR, 1, none⟩ = some (.int .i64 tp) := cell_of_row wr bR 1 _ _ (0, 0) hvi
        obtain ⟨x0, x1, x2, x3, x4, x5, x6⟩ := boxP (keepB HV0.out hBI)
        have HBI := Lib.hid hBI
        clear hBI hvi
        by_cases hlt : y < tp ∧ y < st + 200
        · have hA2 := Lib.hid (HA2.out y wr hy1 hlt.1 (HH0.out.below HBI.out (Nat.le_refl _)))
          obtain ⟨l1, l2⟩ := hlt
          go_wp2_with fail
          all_goals
            refine hA2.out.mono ?_
            rintro e w10 ⟨rfl, hb10⟩
            have HB10 := Lib.hid (Below.onto hb10 hI.out)
            clear hb10
            go_wp2_with fail
            go_roundw
            case rel => exact ⟨y + 1, rfl, by omega, by omega, HB10⟩
            case measure => simp [intOf]; omega
        · go_wp2_with fail
          all_goals
            go_ret
            exact ⟨rfl, Below.onto HBI.out HB0.out⟩
  · have hbg := fun w h => begin11_no (.slice A L.length cap0) L 20 w h hn hnm
    have HBG := Lib.hid hbg
    clear hbg hnm hn hri
    go_enter Try.func9, Try.ntmps9
    go_wp2_with fail
    rw [HW0.out, HBQ.out]
    refine (HBG.out _ HH0.out).mono ?_
    rintro e w1 ⟨rfl, hb1⟩
    have HB1 := Lib.hid hb1
    clear hb1
    go_wp2_with fail
    refine (speaks11_any _).mono ?_
    rintro e w2 ⟨rfl, hb2⟩
    have HB2 := Lib.hid (Below.onto hb2 HB1.out)
    clear hb2
    go_wp2_with fail
    refine (speaks11_any _).mono ?_
    rintro e w3 ⟨rfl, hb3⟩
    have HB3 := Lib.hid (Below.onto hb3 HB2.out)
    clear hb3
    go_wp2_with fail
    go_ret
    exact ⟨rfl, Below.onto HB3.out HB0.out⟩
end Go.Proofs.Ytnkbbobdhcloeaa
