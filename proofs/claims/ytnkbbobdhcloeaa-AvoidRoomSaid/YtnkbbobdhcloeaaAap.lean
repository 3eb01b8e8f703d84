/- The law AvoidApart. -/
import Derived.Test.YtnkbbobdhcloeaaAh
import Derived.Test.YtnkbbobdhcloeaaAv6
namespace Go.Proofs.Ytnkbbobdhcloeaa
set_option linter.unusedSimpArgs false
set_option linter.unusedVariables false
open Go.RowKit
theorem box4 {w : World} {b : Nat} {x y z t : Int} {T : TypeId} (h : w.heap[b]? = some (.cells #[.int .i64 x, .int .i64 y, .int .i64 z, .int .i64 t] T (0, 0))) :
    w.cell? ⟨b, 0, none⟩ = some (.int .i64 x) ∧ w.cell? ⟨b, 1, none⟩ = some (.int .i64 y) ∧ w.cell? ⟨b, 2, none⟩ = some (.int .i64 z) ∧ w.cell? ⟨b, 3, none⟩ = some (.int .i64 t) :=
  ⟨cell_of_row w b 0 _ _ (0, 0) h, cell_of_row w b 1 _ _ (0, 0) h, cell_of_row w b 2 _ _ (0, 0) h, cell_of_row w b 3 _ _ (0, 0) h⟩
set_option maxRecDepth 20000 in
set_option maxHeartbeats 8000000 in
theorem avoidApart_any (L : List Fo) (v : Value) (q : Wa) (w : World) (h : IsFos w v L) (hn : L.length ≤ maxLen) : Calls Try.prog 7 #[v, .agg #[.int .i64 q.a, .int .i64 q.b, .int .i64 q.wd, .int .i64 q.h, .int .i64 q.y]] w fun e w' => e = .returned (.bool true) ∧ Below w.heap.size w w' := by
  obtain ⟨A, cap0, rfl, hx1, hx2⟩ := id h
  clear hx1 hx2
  obtain ⟨W0, hW0⟩ : ∃ W, w.alloc (.cells #[.int .i64 q.a, .int .i64 q.b, .int .i64 q.wd, .int .i64 q.h, .int .i64 q.y] 24) = W := ⟨_, rfl⟩
  obtain ⟨bq, hbq⟩ : ∃ b, w.heap.size = b := ⟨_, rfl⟩
  have hv0 : W0.heap[bq]? = some (.cells #[.int .i64 q.a, .int .i64 q.b, .int .i64 q.wd, .int .i64 q.h, .int .i64 q.y] 24 (0, 0)) := by rw [← hW0, ← hbq]; exact heap_alloc_new w _
  have hb0 : Below w.heap.size w W0 := by rw [← hW0]; exact (Below.refl _ _).alloc (Nat.le_refl _) _
  have hh0 := h.below hb0 (Nat.le_refl _)
  have HW0 := Lib.hid hW0
  have HBQ := Lib.hid hbq
  have HV0 := Lib.hid hv0
  have HB0 := Lib.hid hb0
  have HH0 := Lib.hid hh0
  clear hW0 hbq hv0 hb0 hh0 h
  have hri := fun w => right12_any q w
  by_cases hnm : nearB L = true ∧ (L.length : Int) ≤ 30
  · have hl : L.length ≤ 100000 := by have := hnm.2; omega
    have hbg := fun w h => begin12_yes (.slice A L.length cap0) L 30 w h hl hnm.1 hnm.2
    unfold BegSpPost at hbg
    have HBG := Lib.hid hbg
    have HNB := Lib.hid hnm.1
    have HNL := Lib.hid hn
    have HLL := Lib.hid hl
    clear hbg hnm hn hl
    cases hq : okWa q with
    | false =>
      rw [hq] at hri
      have HRI := Lib.hid hri
      clear hri hq
      go_enter Try.func7, Try.ntmps7
      go_wp2_with fail
      rw [HW0.out, HBQ.out]
      refine (HBG.out _ HH0.out).mono ?_
      rintro e w1 ⟨sp, rfl, hs1, hb1⟩
      have HB1 := Lib.hid hb1
      clear hb1 hs1
      go_wp2_with fail
      refine (speaks12_any _).mono ?_
      rintro e w2 ⟨rfl, hb2⟩
      have HB2 := Lib.hid (Below.onto hb2 HB1.out)
      obtain ⟨x0, x1, x2, x3, x4⟩ := box5 (blk_keep HV0.out HB2.out)
      clear hb2
      go_wp2_with fail
      refine (HRI.out _).mono ?_
      rintro e w3 ⟨rfl, hb3⟩
      have HB3 := Lib.hid (Below.onto hb3 HB2.out)
      clear hb3 x0 x1 x2 x3 x4
      go_wp2_with fail
      refine (speaks12_any _).mono ?_
      rintro e w4 ⟨rfl, hb4⟩
      have HB4 := Lib.hid (Below.onto hb4 HB3.out)
      clear hb4
      go_wp2_with fail
      go_ret
      exact ⟨rfl, Below.onto HB4.out HB0.out⟩
    | true =>
      rw [hq] at hri
      have HRI := Lib.hid hri
      have HQ := Lib.hid hq
      clear hri hq
      have hof := fun w => of12_any q w
      have hfd := fun base sp w h => find_any12 L q base sp w h HNB.out HLL.out HQ.out
      have hfs := topA_first (near_low HNB.out) HQ.out
      have hti := topA_in HNB.out HQ.out
      obtain ⟨⟨ia, ib, iw, ih, iy⟩, i0⟩ := okWa_at HQ.out
      unfold in48 at ia ib iw ih iy
      unfold FindPost at hfd
      have hap := fun f hf => apartA (L := L) (q := q) (t := topA L q) hfs.2.1 (f := f) hf (nearF_at (nearB_at HNB.out f hf)).2.2.2.2
      have hli := leftA_in hfs.2.1 i0
      obtain ⟨tp, htp⟩ : ∃ t, topA L q = t := ⟨_, rfl⟩
      rw [htp] at hfd hfs hti hap hli
      obtain ⟨lv, hlv⟩ : ∃ t, leftA L q tp = t := ⟨_, rfl⟩
      rw [hlv] at hfd hap hli
      obtain ⟨rt, hrt⟩ : ∃ t, lv + q.wd = t := ⟨_, rfl⟩
      obtain ⟨bt, hbt⟩ : ∃ t, tp + q.h = t := ⟨_, rfl⟩
      rw [hrt] at hfd hap hli
      rw [hbt] at hfd hap
      have hlv2 : -281474976710656 ≤ lv ∧ lv ≤ 281474976710656 := by omega
      have hmt : ∀ i, i < L.length → ∀ w, Calls Try.prog 23 #[.agg #[.int .i64 (foAt L i).x0, .int .i64 (foAt L i).y0, .int .i64 (foAt L i).x1, .int .i64 (foAt L i).y1], .agg #[.int .i64 lv, .int .i64 tp, .int .i64 rt, .int .i64 bt]] w fun e w' => e = .returned (.bool false) ∧ Below w.heap.size w w' := by
        intro i hi w
        have hf : foAt L i ∈ L := by rw [foAt_eq L i hi]; exact List.getElem_mem hi
        obtain ⟨n0, n1, n2, n3, n4⟩ := nearF_at (nearB_at HNB.out _ hf)
        have hm := meet_any (foAt L i).x0 (foAt L i).y0 (foAt L i).x1 (foAt L i).y1 lv tp rt bt w (by unfold Mid; omega) (by unfold Mid; omega) (by unfold Mid; omega) (by unfold Mid; omega)
        rw [hap _ hf] at hm
        exact hm
      have hfl := fun base sp w h => floats_any L base sp w h (by have := HLL.out; omega)
      unfold FloatsPost at hfl
      have hqt : q.y ≤ tp := hfs.1
      have hrw : rt - lv = q.wd := by omega
      have hbw : bt - tp = q.h := by omega
      have hrb : -1125899906842624 ≤ rt ∧ rt ≤ 1125899906842624 := by omega
      have hbb : -1125899906842624 ≤ bt ∧ bt ≤ 1125899906842624 := by omega
      have hla := hli.1
      have hlc := hli.2.2
      have HOF := Lib.hid hof
      have HFD := Lib.hid hfd
      have HMT := Lib.hid hmt
      have HFL := Lib.hid hfl
      have HLC := Lib.hid hlc
      have HAB := Lib.hid (And.intro ia ib)
      clear hof hfd hmt hfl hlc hli hap hfs htp hlv hrt hbt ia ib iw ih i0
      go_enter Try.func7, Try.ntmps7
      go_wp2_with fail
      rw [HW0.out, HBQ.out]
      refine (HBG.out _ HH0.out).mono ?_
      rintro e w1 ⟨sp, rfl, hs1, hb1⟩
      have HS1 := Lib.hid hs1
      have HB1 := Lib.hid hb1
      clear hb1 hs1
      go_wp2_with fail
      refine (speaks12_any _).mono ?_
      rintro e w2 ⟨rfl, hb2⟩
      have HS2 := Lib.hid (HS1.out.below hb2 (Nat.le_refl _))
      have HB2 := Lib.hid (Below.onto hb2 HB1.out)
      obtain ⟨x0, x1, x2, x3, x4⟩ := box5 (blk_keep HV0.out HB2.out)
      clear hb2
      go_wp2_with fail
      refine (HRI.out _).mono ?_
      rintro e w3 ⟨rfl, hb3⟩
      have HS3 := Lib.hid (HS2.out.below hb3 (Nat.le_refl _))
      have HB3 := Lib.hid (Below.onto hb3 HB2.out)
      clear hb3 x0 x1 x2 x3 x4
      obtain ⟨x0, x1, x2, x3, x4⟩ := box5 (blk_keep HV0.out HB3.out)
      go_wp2_with fail
      refine (HOF.out _).mono ?_
      rintro e w4 ⟨rfl, hb4⟩
      have HS4 := Lib.hid (HS3.out.below hb4 (Nat.le_refl _))
      have HB4 := Lib.hid (Below.onto hb4 HB3.out)
      clear hb4 x0 x1 x2 x3 x4
      go_wp2_with fail
      refine (HFD.out _ sp w4 HS4.out).mono ?_
      rintro e w5 ⟨rfl, hb5⟩
      have HB5 := Lib.hid (Below.onto hb5 HB4.out)
      have HS5 := Lib.hid (HS4.out.below hb5 (Nat.le_refl _))
      clear hb5
      obtain ⟨x0, x1, x2, x3, x4⟩ := box5 (blk_keep HV0.out HB5.out)
      have hql : bq < w5.heap.size := by have := HB5.out.size; have := (Array.getElem?_eq_some_iff.1 HV0.out).1; omega
      obtain ⟨W6, hW6⟩ : ∃ W, w5.alloc (.cells #[.int .i64 lv, .int .i64 tp, .int .i64 rt, .int .i64 bt] 30) = W := ⟨_, rfl⟩
      obtain ⟨bR, hbR⟩ : ∃ b, w5.heap.size = b := ⟨_, rfl⟩
      have hv6 : W6.heap[bR]? = some (.cells #[.int .i64 lv, .int .i64 tp, .int .i64 rt, .int .i64 bt] 30 (0, 0)) := by rw [← hW6, ← hbR]; exact heap_alloc_new w5 _
      have hb56 : Below w5.heap.size w5 W6 := by rw [← hW6]; exact (Below.refl _ _).alloc (Nat.le_refl _) _
      have HS6 := Lib.hid (HS5.out.below hb56 (Nat.le_refl _))
      clear hb56
      have HB6 := Lib.hid (show Below W0.heap.size W0 W6 by rw [← hW6]; exact HB5.out.alloc HB5.out.size _)
      have HV6 := Lib.hid hv6
      have HW6 := Lib.hid hW6
      have HBR := Lib.hid hbR
      clear hv6 hW6 hbR
      go_wp2_with (first
        | ((with_reducible refine store_new (dst := none) 30 (.tmp 6) (.tmp 26) w5 _ #[.int .i64 lv, .int .i64 tp, .int .i64 rt, .int .i64 bt] 30 rfl ?_ ?_ ?_ ?_ ?_ ?_); rfl; rfl; exact rectInfo; rfl; (simp [Value.oneCell'])))
      rw [HW6.out, HBR.out]
      clear x0 x1 x2 x3 x4
      obtain ⟨u0, u1, u2, u3⟩ := box4 HV6.out
      obtain ⟨x0, x1, x2, x3, x4⟩ := box5 (blk_keep HV0.out HB6.out)
      go_wp2_with fail
      refine (HFL.out _ sp W6 HS6.out).mono ?_
      rintro e w8 ⟨v8, rfl, ho8, hb8⟩
      have hF8 := isFos_of_own ho8 rfl
      have HB8 := Lib.hid (Below.onto hb8 HB6.out)
      have HV8 := Lib.hid (blk_keep HV6.out hb8)
      clear ho8 hb8 u0 u1 u2 u3 x0 x1 x2 x3 x4
      obtain ⟨A8, cap8, rfl, _, hx8⟩ := id hF8
      have HF8 := Lib.hid hx8
      have hLm := HLL.out
      clear hF8 hx8
      go_wp2_with fail
      go_loopw [62] (fun x wr => ∃ i : Nat, i ≤ L.length ∧ x = .int .i64 i ∧ Hid (Below w8.heap.size w8 wr)) (fun x _ => L.length - (intOf x).toNat)
      case atStart => exact ⟨0, by omega, rfl, Lib.hid (Below.refl _ _)⟩
      case round =>
        obtain ⟨i, hi, rfl, hI⟩ := hrel
        by_cases hlt : i < L.length
        · obtain ⟨g, o, rfl, hg, hs⟩ := HF8.out (by omega)
          have hbs := hI.out.size
          obtain ⟨b0, b1, b2, b3, b4⟩ := fo_cells (w := wr) (fun j v hv => (hI.out.cell (p := ⟨g, o + i * 5 + j, none⟩) hg).trans (hs i hlt j v hv))
          have hgl : g < wr.heap.size := by omega
          have hM := HMT.out i hlt
          obtain ⟨W9, hW9⟩ : ∃ W, wr.alloc (.cells #[.int .i64 (foAt L i).s, .int .i64 (foAt L i).x0, .int .i64 (foAt L i).y0, .int .i64 (foAt L i).x1, .int .i64 (foAt L i).y1] 46) = W := ⟨_, rfl⟩
          obtain ⟨bf, hbf⟩ : ∃ b, wr.heap.size = b := ⟨_, rfl⟩
          have hv9 : W9.heap[bf]? = some (.cells #[.int .i64 (foAt L i).s, .int .i64 (foAt L i).x0, .int .i64 (foAt L i).y0, .int .i64 (foAt L i).x1, .int .i64 (foAt L i).y1] 46 (0, 0)) := by rw [← hW9, ← hbf]; exact heap_alloc_new wr _
          have hb9 : Below wr.heap.size wr W9 := by rw [← hW9]; exact (Below.refl _ _).alloc (Nat.le_refl _) _
          have HM := Lib.hid hM
          have HI := Lib.hid hI.out
          have HW9 := Lib.hid hW9
          have HBF := Lib.hid hbf
          have HB9 := Lib.hid (Below.onto hb9 hI.out)
          have HV9 := Lib.hid hv9
          clear hM hI hW9 hbf hb9 hv9 hs hbs
          generalize (foAt L i).s = fs at *
          generalize (foAt L i).x0 = f0 at *
          generalize (foAt L i).y0 = f1 at *
          generalize (foAt L i).x1 = f2 at *
          generalize (foAt L i).y1 = f3 at *
          have hvR := blk_keep HV8.out HI.out
          have hRl : bR < wr.heap.size := (Array.getElem?_eq_some_iff.1 hvR).1
          obtain ⟨u0, u1, u2, u3⟩ := box4 hvR
          clear hvR
          go_wp2_with (first
            | ((with_reducible refine store_new (dst := none) 46 (.tmp 8) (.tmp 65) wr _ #[.int .i64 fs, .int .i64 f0, .int .i64 f1, .int .i64 f2, .int .i64 f3] 46 rfl ?_ ?_ ?_ ?_ ?_ ?_); rfl; rfl; exact spfInfo; rfl; (simp [Value.oneCell'])))
          rw [HW9.out]
          clear b0 b1 b2 b3 b4 u0 u1 u2 u3
          refine (HM.out W9).mono ?_
          rintro e w10 ⟨rfl, hb10⟩
          have HB10 := Lib.hid (Below.onto hb10 HB9.out)
          clear hb10
          go_wp2_with fail
          go_roundw
          case rel => exact ⟨i + 1, by omega, by go_num, HB10⟩
          case measure => simp [intOf]; omega
        · have hir : i = L.length := by omega
          subst hir
          have HBI := Lib.hid (Below.onto hI.out HB8.out)
          obtain ⟨u0, u1, u2, u3⟩ := box4 (blk_keep HV8.out hI.out)
          obtain ⟨x0, x1, x2, x3, x4⟩ := box5 (blk_keep HV0.out HBI.out)
          obtain ⟨ia, ib⟩ := HAB.out
          clear hI hlt hi
          rcases HLC.out with hc | ⟨hc, hc2⟩
          · go_wp2_with fail
            all_goals
              go_ret
              exact ⟨rfl, Below.onto HBI.out HB0.out⟩
          · subst hc2
            go_wp2_with fail
            all_goals
              go_ret
              exact ⟨rfl, Below.onto HBI.out HB0.out⟩
  · have hbg := fun w h => begin12_no (.slice A L.length cap0) L 30 w h hn hnm
    have HBG := Lib.hid hbg
    clear hbg hnm hn hri
    go_enter Try.func7, Try.ntmps7
    go_wp2_with fail
    rw [HW0.out, HBQ.out]
    refine (HBG.out _ HH0.out).mono ?_
    rintro e w1 ⟨rfl, hb1⟩
    have HB1 := Lib.hid hb1
    clear hb1
    go_wp2_with fail
    refine (speaks12_any _).mono ?_
    rintro e w2 ⟨rfl, hb2⟩
    have HB2 := Lib.hid (Below.onto hb2 HB1.out)
    clear hb2
    go_wp2_with fail
    refine (speaks12_any _).mono ?_
    rintro e w3 ⟨rfl, hb3⟩
    have HB3 := Lib.hid (Below.onto hb3 HB2.out)
    clear hb3
    go_wp2_with fail
    go_ret
    exact ⟨rfl, Below.onto HB3.out HB0.out⟩
end Go.Proofs.Ytnkbbobdhcloeaa
