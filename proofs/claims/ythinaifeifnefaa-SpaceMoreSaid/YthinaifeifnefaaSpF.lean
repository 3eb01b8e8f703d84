/- The law SpaceFrees. -/
import Derived.Test.YthinaifeifnefaaSps
namespace Go.Proofs.Ythinaifeifnefaa
set_option linter.unusedSimpArgs false
set_option linter.unusedVariables false
open Go.RowKit
def in50 (n : Int) : Prop := -1125899906842624 ≤ n ∧ n ≤ 1125899906842624
theorem at4_row (a b c d : Int) (k : Nat) (h : k < 4) : (#[Value.int .i64 a, .int .i64 b, .int .i64 c, .int .i64 d] : Array Value)[k]? = some (.int .i64 (at4 a b c d k)) := by
  match k, h with
  | 0, _ => rfl
  | 1, _ => rfl
  | 2, _ => rfl
  | 3, _ => rfl
theorem in50_cases (n : Int) : (decide (1125899906842624 < n) = true) ∨ (decide (1125899906842624 < n) = false ∧ decide (n < -1125899906842624) = true) ∨ (decide (1125899906842624 < n) = false ∧ decide (n < -1125899906842624) = false ∧ in50 n) := by
  unfold in50
  by_cases h1 : 1125899906842624 < n
  · left; exact decide_eq_true h1
  · right
    by_cases h2 : n < -1125899906842624
    · left; exact ⟨decide_eq_false h1, decide_eq_true h2⟩
    · right; exact ⟨decide_eq_false h1, decide_eq_false h2, by omega, by omega⟩
set_option maxRecDepth 20000 in
set_option maxHeartbeats 8000000 in
theorem spaceFrees_any (L : List Fo) (v : Value) (a b y hi : Int) (w : World) (h : IsFos w v L) (hn : L.length ≤ maxLen) : Calls Try.prog 11 #[v, .int .i64 a, .int .i64 b, .int .i64 y, .int .i64 hi] w fun e w' => e = .returned (.bool true) ∧ Below w.heap.size w w' := by
  obtain ⟨A, cap0, rfl, hx1, hx2⟩ := id h
  clear hx1 hx2
  have hfw := fun w h => few_any (.slice A L.length cap0) L 40 w h hn
  have hsw := fun w h => sides_any (.slice A L.length cap0) L w h hn
  cases hq : fewB L 40 with
  | false =>
    rw [hq] at hfw
    have HFW := Lib.hid hfw
    have HH := Lib.hid h
    clear hfw h hn hq hsw
    go_enter Try.func11, Try.ntmps11
    go_wp2_with fail
    refine (speaks10_any _).mono ?_
    rintro e w1 ⟨rfl, hb1⟩
    have HB1 := Lib.hid hb1
    clear hb1
    go_wp2_with fail
    refine (HFW.out _ (HH.out.below HB1.out (Nat.le_refl _))).mono ?_
    rintro e w2 ⟨rfl, hb2⟩
    have HB2 := Lib.hid (Below.onto hb2 HB1.out)
    clear hb2
    go_wp2_with fail
    refine (speaks10_any _).mono ?_
    rintro e w3 ⟨rfl, hb3⟩
    have HB3 := Lib.hid (Below.onto hb3 HB2.out)
    clear hb3
    go_wp2_with fail
    go_ret
    exact ⟨rfl, HB3.out⟩
  | true =>
    rw [hq] at hfw
    cases hs : sided L with
    | false =>
      rw [hs] at hsw
      have HFW := Lib.hid hfw
      have HSW := Lib.hid hsw
      have HH := Lib.hid h
      clear hfw h hn hq hsw hs
      go_enter Try.func11, Try.ntmps11
      go_wp2_with fail
      refine (speaks10_any _).mono ?_
      rintro e w1 ⟨rfl, hb1⟩
      have HB1 := Lib.hid hb1
      clear hb1
      go_wp2_with fail
      refine (HFW.out _ (HH.out.below HB1.out (Nat.le_refl _))).mono ?_
      rintro e w2 ⟨rfl, hb2⟩
      have HB2 := Lib.hid (Below.onto hb2 HB1.out)
      clear hb2
      go_wp2_with fail
      refine (HSW.out _ (HH.out.below HB2.out (Nat.le_refl _))).mono ?_
      rintro e w2' ⟨rfl, hb2⟩
      have HB2' := Lib.hid (Below.onto hb2 HB2.out)
      clear hb2
      go_wp2_with fail
      refine (speaks10_any _).mono ?_
      rintro e w3 ⟨rfl, hb3⟩
      have HB3 := Lib.hid (Below.onto hb3 HB2'.out)
      clear hb3
      go_wp2_with fail
      go_ret
      exact ⟨rfl, HB3.out⟩
    | true =>
      rw [hs] at hsw
      obtain ⟨hsm, hl40⟩ := few_small hq
      have hsd := sided_at hs
      have hok := spok_small hsm (by omega)
      have HOK := Lib.hid hok
      have hbg := fun w h => begin10_any (.slice A L.length cap0) L w h (by omega) hsm hsd
      have HBG := Lib.hid hbg
      have HFW := Lib.hid hfw
      have HSW := Lib.hid hsw
      have HH := Lib.hid h
      have HN := Lib.hid hn
      clear hfw h hn hq hsw hs hsm hl40 hsd hok hbg
      go_enter Try.func11, Try.ntmps11
      go_wp2_with fail
      refine (speaks10_any _).mono ?_
      rintro e w1 ⟨rfl, hb1⟩
      have HB1 := Lib.hid hb1
      clear hb1
      go_wp2_with fail
      refine (HFW.out _ (HH.out.below HB1.out (Nat.le_refl _))).mono ?_
      rintro e w2 ⟨rfl, hb2⟩
      have HB2 := Lib.hid (Below.onto hb2 HB1.out)
      clear hb2
      go_wp2_with fail
      refine (HSW.out _ (HH.out.below HB2.out (Nat.le_refl _))).mono ?_
      rintro e w3 ⟨rfl, hb3⟩
      have HB3 := Lib.hid (Below.onto hb3 HB2.out)
      clear hb3
      go_wp2_with fail
      obtain ⟨W4, hW4⟩ : ∃ W, w3.alloc (.cells #[.int .i64 a, .int .i64 b, .int .i64 y, .int .i64 hi] 3) = W := ⟨_, rfl⟩
      obtain ⟨bA, hbA⟩ : ∃ b, w3.heap.size = b := ⟨_, rfl⟩
      have hA4 : W4.heap[bA]? = some (.cells #[.int .i64 a, .int .i64 b, .int .i64 y, .int .i64 hi] 3 (0, 0)) := by rw [← hW4, ← hbA]; exact heap_alloc_new w3 _
      have HB4 := Lib.hid (show Below w.heap.size w W4 by rw [← hW4]; exact HB3.out.alloc HB3.out.size _)
      have HA4 := Lib.hid hA4
      rw [hW4, hbA]
      clear hA4 hW4 hbA
      go_loopw [38] (fun x wr => ∃ k : Nat, k ≤ 4 ∧ x = .int .i64 k ∧ Hid ((∀ j, j < k → in50 (at4 a b y hi j)) ∧ wr.heap[bA]? = some (.cells #[.int .i64 a, .int .i64 b, .int .i64 y, .int .i64 hi] 3 (0, 0)) ∧ Below w.heap.size w wr)) (fun x _ => 4 - (intOf x).toNat)
      case atStart => exact ⟨0, by omega, rfl, Lib.hid ⟨fun j hj => by omega, HA4.out, HB4.out⟩⟩
      case round =>
        obtain ⟨k, hk, rfl, hI⟩ := hrel
        by_cases hlt : k < 4
        · have c0 : wr.cell? ⟨bA, k, none⟩ = some (.int .i64 (at4 a b y hi k)) := (cell_of_row wr bA k _ _ (0, 0) hI.out.2.1).trans (at4_row a b y hi k hlt)
          have hc := in50_cases (at4 a b y hi k)
          have hst : in50 (at4 a b y hi k) → ∀ j, j < k + 1 → in50 (at4 a b y hi j) := fun h j hj => by
            by_cases e : j = k
            · rw [e]; exact h
            · exact hI.out.1 j (by omega)
          have HST := Lib.hid hst
          have HB := Lib.hid hI.out.2.2
          have HA := Lib.hid hI.out.2.1
          clear hst hI
          generalize at4 a b y hi k = nv at *
          rcases hc with d1 | ⟨d1, d2⟩ | ⟨d1, d2, hin⟩
          · clear HST
            go_wp2_with fail
            go_ret
            exact ⟨rfl, HB.out⟩
          · clear HST
            go_wp2_with fail
            go_ret
            exact ⟨rfl, HB.out⟩
          · have HS := Lib.hid (HST.out hin)
            clear hin HST
            go_wp2_with fail
            go_roundw
            case rel => exact ⟨k + 1, by omega, by go_num, Lib.hid ⟨HS.out, HA.out, HB.out⟩⟩
            case measure => simp [intOf]; omega
        · have hk4 : k = 4 := by omega
          subst hk4
          have ha := hI.out.1 0 (by omega)
          have hb := hI.out.1 1 (by omega)
          have hy := hI.out.1 2 (by omega)
          have hhi := hI.out.1 3 (by omega)
          simp only [at4] at ha hb hy hhi
          unfold in50 at ha hb hy hhi
          have HB := Lib.hid hI.out.2.2
          clear hI hlt hk
          have hg : 1 ≤ hgh hi ∧ hgh hi ≤ 1125899906842624 := by unfold hgh; omega
          have hrw := fun w => srows_any y hi w (by omega) (by omega)
          have hrb := fun w h => rbounds10_any L (.slice A L.length cap0) y hi w h HN.out (by omega) (by omega)
          have hrf := fun w h => rfree_any L (.slice A L.length cap0) a b y hi w h HN.out (by omega) (by omega)
          have hbd := fun base sp w h => bounds10_any L y (y + hgh hi) base sp w h HOK.out (by unfold Mid; omega) (by unfold Mid; omega) (by unfold far; omega)
          have hfr := fun base sp w h => free_any L a b y (y + hgh hi) base sp w h HOK.out (by unfold Mid; omega) (by unfold Mid; omega) (by unfold far; omega)
          have hhg := fun w => high_any hi w
          unfold SpanPost at hrw hbd hfr
          unfold TupPost at hrb hrf
          unfold freeS at hrf
          unfold bnds at hrb hrf
          generalize hgh hi = hv at *
          generalize band L y (y + hv) = q at *
          obtain ⟨q1, q2⟩ := q
          simp only at hrw hrb hrf hbd hfr
          generalize max a q1 = r1 at *
          generalize min b q2 = r2 at *
          have HRW := Lib.hid hrw
          have HRB := Lib.hid hrb
          have HRF := Lib.hid hrf
          have HBD := Lib.hid hbd
          have HFR := Lib.hid hfr
          have HHG := Lib.hid hhg
          clear hrw hrb hrf hbd hfr hhg
          go_wp2_with fail
          refine (HBG.out _ (HH.out.below HB.out (Nat.le_refl _))).mono ?_
          rintro e w5 ⟨sp, rfl, hs5, hb5⟩
          have HS5 := Lib.hid hs5
          have HB5 := Lib.hid (Below.onto hb5 HB.out)
          clear hs5 hb5
          go_wp2_with fail
          refine (HRW.out _).mono ?_
          rintro e w6 ⟨rfl, hb6⟩
          have HS6 := Lib.hid (HS5.out.below hb6 (Nat.le_refl _))
          have HB6 := Lib.hid (Below.onto hb6 HB5.out)
          clear hb6
          go_wp2_with (first
            | ((with_reducible refine store_new (dst := none) 38 (.tmp 14) (.tmp 55) w6 _ #[.int .i64 y, .int .i64 (y + hv)] 38 rfl ?_ ?_ ?_ ?_ ?_ ?_); rfl; rfl; exact spanInfo; rfl; (simp [Value.oneCell'])))
          have hb7 := HB6.out.alloc HB6.out.size (.cells #[.int .i64 y, .int .i64 (y + hv)] 38)
          have hs7 := HS6.out.below (n := w6.heap.size) ((Below.refl w6.heap.size w6).alloc (Nat.le_refl _) (.cells #[.int .i64 y, .int .i64 (y + hv)] 38)) (Nat.le_refl _)
          have hv7 := heap_alloc_new w6 (.cells #[.int .i64 y, .int .i64 (y + hv)] 38)
          generalize w6.alloc (.cells #[.int .i64 y, .int .i64 (y + hv)] 38) = w7 at *
          obtain ⟨bR, hbR⟩ : ∃ b, w6.heap.size = b := ⟨_, rfl⟩
          rw [hbR] at hv7 ⊢
          have hRl : bR < w7.heap.size := (Array.getElem?_eq_some_iff.1 hv7).1
          have HK : Hid (∀ w' : World, w'.heap[bR]? = w7.heap[bR]? → (w'.cell? ⟨bR, 0, none⟩ = some (.int .i64 y) ∧ w'.cell? ⟨bR, 1, none⟩ = some (.int .i64 (y + hv)))) := fun w' e => ⟨cell_of_row w' bR 0 _ _ (0, 0) (e.trans hv7), cell_of_row w' bR 1 _ _ (0, 0) (e.trans hv7)⟩
          have hw1 : IntKind.i64.wrap (y + hv) = y + hv := by rw [IntKind.wrap_i64]; omega
          have HS7 := Lib.hid hs7
          have HB7 := Lib.hid hb7
          have HV7 := Lib.hid hv7
          clear hs7 hb7 hv7 hbR HS6 HB6 HB5 HS5
          go_region_held3 (fun w' => w'.cell? ⟨bR, 0, none⟩ = some (.int .i64 y) ∧ w'.cell? ⟨bR, 1, none⟩ = some (.int .i64 (y + hv))) (first | exact HK.out _ rfl) (first
            | ((with_reducible refine (HHG.out _).mono ?_); rintro e w8 ⟨rfl, rfl⟩))
          rename_i hH
          clear hH hw1
          go_wp2_with fail
          have hd8 : Below w7.heap.size w7 w7.drew := (Below.refl _ _).drew
          have HS8 := Lib.hid (HS7.out.below hd8 (Nat.le_refl _))
          have HB8 := Lib.hid (Below.onto hd8 HB7.out)
          have hH8 := Lib.hid (HH.out.below HB8.out (Nat.le_refl _))
          have HV8 := Lib.hid (show w7.drew.heap[bR]? = _ from HV7.out)
          have hR8 : bR < w7.drew.heap.size := hRl
          clear hd8 HS7 HB7 HV7 HK hRl
          generalize w7.drew = w8 at *
          refine (HRB.out _ hH8.out).mono ?_
          rintro e w9 ⟨rfl, hb9⟩
          have HS9 := Lib.hid (HS8.out.below hb9 (Nat.le_refl _))
          have HB9 := Lib.hid (Below.onto hb9 HB8.out)
          have hH9 := Lib.hid (HH.out.below HB9.out (Nat.le_refl _))
          have HV9 := Lib.hid ((hb9.block bR hR8).trans HV8.out)
          have hR9 : bR < w9.heap.size := by have := hb9.size; omega
          clear hb9 HS8 HB8 hH8 HV8 hR8
          go_wp2_with fail
          refine (HRF.out _ hH9.out).mono ?_
          rintro e w10 ⟨rfl, hb10⟩
          have HS10 := Lib.hid (HS9.out.below hb10 (Nat.le_refl _))
          have HB10 := Lib.hid (Below.onto hb10 HB9.out)
          have hv10 := (hb10.block bR hR9).trans HV9.out
          have hR10 : bR < w10.heap.size := by have := hb10.size; omega
          have k0 : w10.cell? ⟨bR, 0, none⟩ = some (.int .i64 y) := cell_of_row w10 bR 0 _ _ (0, 0) hv10
          have k1 : w10.cell? ⟨bR, 1, none⟩ = some (.int .i64 (y + hv)) := cell_of_row w10 bR 1 _ _ (0, 0) hv10
          have HV10 := Lib.hid hv10
          clear hb10 HS9 HB9 hH9 HV9 hR9 hv10
          go_wp2_with fail
          refine (HBD.out _ sp w10 HS10.out).mono ?_
          rintro e w11 ⟨rfl, hb11⟩
          have HS11 := Lib.hid (HS10.out.below hb11 (Nat.le_refl _))
          have HB11 := Lib.hid (Below.onto hb11 HB10.out)
          have hv11 := (hb11.block bR hR10).trans HV10.out
          have k0 : w11.cell? ⟨bR, 0, none⟩ = some (.int .i64 y) := cell_of_row w11 bR 0 _ _ (0, 0) hv11
          have k1 : w11.cell? ⟨bR, 1, none⟩ = some (.int .i64 (y + hv)) := cell_of_row w11 bR 1 _ _ (0, 0) hv11
          clear hb11 HS10 HB10 HV10 hR10 hv11
          go_wp2_with fail
          refine (HFR.out _ sp w11 HS11.out).mono ?_
          rintro e w12 ⟨rfl, hb12⟩
          have HB12 := Lib.hid (Below.onto hb12 HB11.out)
          clear hb12
          go_wp2_with fail
          go_ret
          exact ⟨rfl, HB12.out⟩
end Go.Proofs.Ythinaifeifnefaa
