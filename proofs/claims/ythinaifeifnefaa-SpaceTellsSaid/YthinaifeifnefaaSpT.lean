/- The law SpaceTells. -/
import Derived.Test.YthinaifeifnefaaSps
namespace Go.Proofs.Ythinaifeifnefaa
set_option linter.unusedSimpArgs false
set_option linter.unusedVariables false
open Go.RowKit
theorem spfInfo : (Try.prog.info? 83).map (·.size) = some 5 := by kernel_rfl
theorem four_row (k : Nat) (h : k < 4) : (#[Value.int .i64 0, .int .i64 1, .int .i64 2, .int .i64 3] : Array Value)[k]? = some (.int .i64 k) := by
  match k, h with
  | 0, _ => rfl
  | 1, _ => rfl
  | 2, _ => rfl
  | 3, _ => rfl
set_option maxRecDepth 20000 in
set_option maxHeartbeats 8000000 in
theorem spaceTells_any (L : List Fo) (v : Value) (cl y : Int) (w : World) (h : IsFos w v L) (hn : L.length ≤ maxLen) : Calls Try.prog 13 #[v, .int .i64 cl, .int .i64 y] w fun e w' => e = .returned (.bool true) ∧ Below w.heap.size w w' := by
  obtain ⟨A, cap0, rfl, hx1, hx2⟩ := id h
  clear hx1 hx2
  have hfw := fun w h => few_any (.slice A L.length cap0) L 40 w h hn
  have hsw := fun w h => sides_any (.slice A L.length cap0) L w h hn
  cases hq : fewB L 40 with
  | false =>
    rw [hq] at hfw
    have HFW := Lib.hid hfw
    have HH := Lib.hid h
    clear hfw h hn hq hsw
    go_enter Try.func13, Try.ntmps13
    go_wp2_with fail
    refine (speaks10_any _).mono ?_
    rintro e w1 ⟨rfl, hb1⟩
    have HB1 := Lib.hid hb1
    clear hb1
    go_wp2_with fail
    refine (HFW.out _ (HH.out.below HB1.out (Nat.le_refl _))).mono ?_
    rintro e w2 ⟨rfl, hb2⟩
    have HB2 := Lib.hid (Below.onto hb2 HB1.out)
    clear hb2
    go_wp2_with fail
    refine (speaks10_any _).mono ?_
    rintro e w3 ⟨rfl, hb3⟩
    have HB3 := Lib.hid (Below.onto hb3 HB2.out)
    clear hb3
    go_wp2_with fail
    go_ret
    exact ⟨rfl, HB3.out⟩
  | true =>
    rw [hq] at hfw
    cases hs : sided L with
    | false =>
      rw [hs] at hsw
      have HFW := Lib.hid hfw
      have HSW := Lib.hid hsw
      have HH := Lib.hid h
      clear hfw h hn hq hsw hs
      go_enter Try.func13, Try.ntmps13
      go_wp2_with fail
      refine (speaks10_any _).mono ?_
      rintro e w1 ⟨rfl, hb1⟩
      have HB1 := Lib.hid hb1
      clear hb1
      go_wp2_with fail
      refine (HFW.out _ (HH.out.below HB1.out (Nat.le_refl _))).mono ?_
      rintro e w2 ⟨rfl, hb2⟩
      have HB2 := Lib.hid (Below.onto hb2 HB1.out)
      clear hb2
      go_wp2_with fail
      refine (HSW.out _ (HH.out.below HB2.out (Nat.le_refl _))).mono ?_
      rintro e w3 ⟨rfl, hb3⟩
      have HB3 := Lib.hid (Below.onto hb3 HB2.out)
      clear hb3
      go_wp2_with fail
      refine (speaks10_any _).mono ?_
      rintro e w4 ⟨rfl, hb4⟩
      have HB4 := Lib.hid (Below.onto hb4 HB3.out)
      clear hb4
      go_wp2_with fail
      go_ret
      exact ⟨rfl, HB4.out⟩
    | true =>
      rw [hs] at hsw
      obtain ⟨hsm, hl40⟩ := few_small hq
      have hsd := sided_at hs
      have hok := spok_small hsm (by omega)
      have HOK := Lib.hid hok
      have HSD := Lib.hid hsd
      have HSM := Lib.hid hsm
      have HL40 := Lib.hid hl40
      have hbg := fun w h => begin10_any (.slice A L.length cap0) L w h (by omega) hsm hsd
      have HBG := Lib.hid hbg
      have HFW := Lib.hid hfw
      have HSW := Lib.hid hsw
      have HH := Lib.hid h
      have HN := Lib.hid hn
      have hla := fun base sp w h => last_any L base sp w h
      have hrl := fun w h => rlast_any L (.slice A L.length cap0) w h hn
      have hfl := fun base sp w h => floats_any L base sp w h (by omega)
      unfold EdgePost at hla hrl
      obtain ⟨⟨q1, q2⟩, hqq⟩ : ∃ q, lastS L = q := ⟨_, rfl⟩
      rw [hqq] at hla hrl
      have HLA := Lib.hid hla
      have HRL := Lib.hid hrl
      have HFL := Lib.hid hfl
      have hbo := fun c base sp w h => bottom_any L c base sp w h hsd
      have hrb := fun c w h => rbottom_any L (.slice A L.length cap0) c w h hn hsd
      have hcl := fun c base sp w h => clear_any L c y base sp w h hsd
      have hrc := fun c w h => rclear_any L (.slice A L.length cap0) c y w h hn hsd
      have HBO := Lib.hid hbo
      have HRB := Lib.hid hrb
      have HCL := Lib.hid hcl
      have HRC := Lib.hid hrc
      have hlN : (L.length : Int) ≤ 40 := hl40
      clear hla hrl hfl hqq hbo hrb hcl hrc
      clear hfw h hn hq hsw hs hsm hl40 hsd hok hbg
      go_enter Try.func13, Try.ntmps13
      go_wp2_with fail
      refine (speaks10_any _).mono ?_
      rintro e w1 ⟨rfl, hb1⟩
      have HB1 := Lib.hid hb1
      clear hb1
      go_wp2_with fail
      refine (HFW.out _ (HH.out.below HB1.out (Nat.le_refl _))).mono ?_
      rintro e w2 ⟨rfl, hb2⟩
      have HB2 := Lib.hid (Below.onto hb2 HB1.out)
      clear hb2
      go_wp2_with fail
      refine (HSW.out _ (HH.out.below HB2.out (Nat.le_refl _))).mono ?_
      rintro e w3 ⟨rfl, hb3⟩
      have HB3 := Lib.hid (Below.onto hb3 HB2.out)
      clear hb3
      go_wp2_with fail
      refine (HBG.out _ (HH.out.below HB3.out (Nat.le_refl _))).mono ?_
      rintro e w4 ⟨sp, rfl, hs4, hb4⟩
      have HS4 := Lib.hid hs4
      have HB4 := Lib.hid (Below.onto hb4 HB3.out)
      clear hs4 hb4
      go_wp2_with fail
      refine (HLA.out _ sp w4 HS4.out).mono ?_
      rintro e w5 ⟨rfl, hb5⟩
      have HS5 := Lib.hid (HS4.out.below hb5 (Nat.le_refl _))
      have HB5 := Lib.hid (Below.onto hb5 HB4.out)
      clear hb5
      go_wp2_with fail
      refine (HRL.out w5 (HH.out.below HB5.out (Nat.le_refl _))).mono ?_
      rintro e w6 ⟨rfl, hb6⟩
      have HS6 := Lib.hid (HS5.out.below hb6 (Nat.le_refl _))
      have HB6 := Lib.hid (Below.onto hb6 HB5.out)
      clear hb6
      go_wp2_with fail
      obtain ⟨W7, hW7⟩ : ∃ W, w6.alloc (.cells #[.int .i64 0, .int .i64 1, .int .i64 2, .int .i64 3] 3) = W := ⟨_, rfl⟩
      obtain ⟨bA, hbA⟩ : ∃ b, w6.heap.size = b := ⟨_, rfl⟩
      have hA7 : W7.heap[bA]? = some (.cells #[.int .i64 0, .int .i64 1, .int .i64 2, .int .i64 3] 3 (0, 0)) := by rw [← hW7, ← hbA]; exact heap_alloc_new w6 _
      have HB7 := Lib.hid (show Below w.heap.size w W7 by rw [← hW7]; exact HB6.out.alloc HB6.out.size _)
      have HS7 := Lib.hid (show SpaceIs W7 w3.heap.size sp L by rw [← hW7]; exact HS6.out.below ((Below.refl _ _).alloc (Nat.le_refl _) _) (Nat.le_refl _))
      have HA7 := Lib.hid hA7
      rw [hW7, hbA]
      clear hA7 hW7 hbA
      go_loopw [54] (fun x wr => ∃ k : Nat, k ≤ 4 ∧ x = .int .i64 k ∧ Hid (SpaceIs wr w3.heap.size sp L ∧ wr.heap[bA]? = some (.cells #[.int .i64 0, .int .i64 1, .int .i64 2, .int .i64 3] 3 (0, 0)) ∧ Below w.heap.size w wr)) (fun x _ => 4 - (intOf x).toNat)
      case atStart => exact ⟨0, by omega, rfl, Lib.hid ⟨HS7.out, HA7.out, HB7.out⟩⟩
      case round =>
        obtain ⟨k, hk, rfl, hI⟩ := hrel
        by_cases hlt : k < 4
        · have c0 : wr.cell? ⟨bA, k, none⟩ = some (.int .i64 k) := (cell_of_row wr bA k _ _ (0, 0) hI.out.2.1).trans (four_row k hlt)
          have hbo := fun base sp w h => HBO.out (k : Int) base sp w h
          have hrb := fun w h => HRB.out (k : Int) w h
          have hcl := fun base sp w h => HCL.out (k : Int) base sp w h
          have hrc := fun w h => HRC.out (k : Int) w h
          unfold EdgePost at hbo hrb
          unfold IntPost at hcl hrc
          obtain ⟨⟨p1, p2⟩, hpp⟩ : ∃ q, botS (k : Int) L = q := ⟨_, rfl⟩
          obtain ⟨p3, hp3⟩ : ∃ q, clrS (k : Int) L y = q := ⟨_, rfl⟩
          rw [hpp] at hbo hrb
          rw [hp3] at hcl hrc
          have HBOk := Lib.hid hbo
          have HRBk := Lib.hid hrb
          have HCLk := Lib.hid hcl
          have HRCk := Lib.hid hrc
          have HIN := Lib.hid hI.out
          have HAl := Lib.hid (Array.getElem?_eq_some_iff.1 hI.out.2.1).1
          clear hbo hrb hcl hrc hpp hp3 hI
          go_wp2_with fail
          refine (HBOk.out _ sp wr HIN.out.1).mono ?_
          rintro e x1 ⟨rfl, hb1⟩
          have HC1 := Lib.hid hb1
          clear hb1
          go_wp2_with fail
          refine (HRBk.out x1 (HH.out.below (Below.onto HC1.out HIN.out.2.2) (Nat.le_refl _))).mono ?_
          rintro e x2 ⟨rfl, hb2⟩
          have HC2 := Lib.hid (Below.onto hb2 HC1.out)
          clear hb2
          go_wp2_with fail
          refine (HCLk.out _ sp x2 (HIN.out.1.below HC2.out (Nat.le_refl _))).mono ?_
          rintro e x3 ⟨rfl, hb3⟩
          have HC3 := Lib.hid (Below.onto hb3 HC2.out)
          clear hb3
          go_wp2_with fail
          refine (HRCk.out x3 (HH.out.below (Below.onto HC3.out HIN.out.2.2) (Nat.le_refl _))).mono ?_
          rintro e x4 ⟨rfl, hb4⟩
          have HC4 := Lib.hid (Below.onto hb4 HC3.out)
          clear hb4
          go_wp2_with fail
          go_roundw
          case rel => exact ⟨k + 1, by omega, by go_num, Lib.hid ⟨HIN.out.1.below HC4.out (Nat.le_refl _), (HC4.out.block bA HAl.out).trans HIN.out.2.1, Below.onto HC4.out HIN.out.2.2⟩⟩
          case measure => simp [intOf]; omega
        · have HIN := Lib.hid (And.intro hI.out.1 hI.out.2.2)
          clear hI
          go_wp2_with fail
          refine (HFL.out _ sp wr HIN.out.1).mono ?_
          unfold FloatsPost
          rintro e w8 ⟨v8, rfl, ho8, hb8⟩
          have hF8 := isFos_of_own ho8 rfl
          have HB8 := Lib.hid (Below.onto hb8 HIN.out.2)
          have hsz8 := HB8.out.size
          clear ho8 hb8
          obtain ⟨A8, cap8, rfl, _, hx8⟩ := id hF8
          have HF8 := Lib.hid hx8
          have hLm := HN.out
          unfold maxLen at hLm
          clear hF8 hx8
          go_wp2_with fail
          go_loopw [99] (fun x wr => ∃ i : Nat, i ≤ L.length ∧ x = .int .i64 i ∧ Hid (Below w8.heap.size w8 wr)) (fun x _ => L.length - (intOf x).toNat)
          case atStart => exact ⟨0, by omega, rfl, Lib.hid (Below.refl _ _)⟩
          case round =>
            obtain ⟨i, hi, rfl, hI⟩ := hrel
            by_cases hlt : i < L.length
            · obtain ⟨g8, o8, rfl, hg8, hs8⟩ := HF8.out (by omega)
              obtain ⟨A', cap', e', _, hxx⟩ := HH.out
              simp only [Value.slice.injEq, true_and] at e'
              obtain ⟨rfl, rfl⟩ := e'
              obtain ⟨g, o, rfl, hg, hs⟩ := hxx (by omega)
              have hbs := hI.out.size
              obtain ⟨b0, b1, b2, b3, b4⟩ := fo_cells (w := wr) (fun j v hv => (hI.out.cell (p := ⟨g8, o8 + i * 5 + j, none⟩) hg8).trans (hs8 i hlt j v hv))
              have hrl : ∀ w', Below wr.heap.size wr w' → w'.rangeAt g (o + i * 5) (foC (foAt L i)) := fun w' hB j v hv => ((Below.onto hB (Below.onto hI.out HB8.out)).cell (p := ⟨g, o + i * 5 + j, none⟩) hg).trans (hs i hlt j v hv)
              have hgl : g < wr.heap.size := by omega
              have hgl8 : g8 < wr.heap.size := by omega
              obtain ⟨W9, hW9⟩ : ∃ W, wr.alloc (.cells #[.int .i64 (foAt L i).s, .int .i64 (foAt L i).x0, .int .i64 (foAt L i).y0, .int .i64 (foAt L i).x1, .int .i64 (foAt L i).y1] 83) = W := ⟨_, rfl⟩
              obtain ⟨bf, hbf⟩ : ∃ b, wr.heap.size = b := ⟨_, rfl⟩
              have hv9 : W9.heap[bf]? = some (.cells #[.int .i64 (foAt L i).s, .int .i64 (foAt L i).x0, .int .i64 (foAt L i).y0, .int .i64 (foAt L i).x1, .int .i64 (foAt L i).y1] 83 (0, 0)) := by rw [← hW9, ← hbf]; exact heap_alloc_new wr _
              have hb9 : Below wr.heap.size wr W9 := by rw [← hW9]; exact (Below.refl _ _).alloc (Nat.le_refl _) _
              have hbl9 := (Array.getElem?_eq_some_iff.1 hv9).1
              have hk : ∀ w', Below W9.heap.size W9 w' → Below W9.heap.size W9 w' ∧ w'.cell? ⟨bf, 0, none⟩ = some (.int .i64 (foAt L i).s) ∧ w'.cell? ⟨bf, 1, none⟩ = some (.int .i64 (foAt L i).x0) ∧ w'.cell? ⟨bf, 2, none⟩ = some (.int .i64 (foAt L i).y0) ∧ w'.cell? ⟨bf, 3, none⟩ = some (.int .i64 (foAt L i).x1) ∧ w'.cell? ⟨bf, 4, none⟩ = some (.int .i64 (foAt L i).y1) ∧
                  w'.cell? ⟨g, o + i * 5, none⟩ = some (.int .i64 (foAt L i).s) ∧ w'.cell? ⟨g, o + i * 5 + 1, none⟩ = some (.int .i64 (foAt L i).x0) ∧ w'.cell? ⟨g, o + i * 5 + 2, none⟩ = some (.int .i64 (foAt L i).y0) ∧ w'.cell? ⟨g, o + i * 5 + 3, none⟩ = some (.int .i64 (foAt L i).x1) ∧ w'.cell? ⟨g, o + i * 5 + 4, none⟩ = some (.int .i64 (foAt L i).y1) := by
                intro w' hB
                have h1 := (hB.block bf hbl9).trans hv9
                obtain ⟨d0, d1, d2, d3, d4⟩ := fo_cells (hrl w' (Below.onto hB hb9))
                exact ⟨hB, cell_of_row w' bf 0 _ _ (0, 0) h1, cell_of_row w' bf 1 _ _ (0, 0) h1, cell_of_row w' bf 2 _ _ (0, 0) h1, cell_of_row w' bf 3 _ _ (0, 0) h1, cell_of_row w' bf 4 _ _ (0, 0) h1, d0, d1, d2, d3, d4⟩
              have HK := Lib.hid hk
              have HI := Lib.hid hI.out
              have HW9 := Lib.hid hW9
              have HBF := Lib.hid hbf
              have HB9 := Lib.hid hb9
              clear hk hI hW9 hbf hb9 hrl hs8 hs hbl9 hv9 hbs hxx
              generalize (foAt L i).s = fs at *
              generalize (foAt L i).x0 = f0 at *
              generalize (foAt L i).y0 = f1 at *
              generalize (foAt L i).x1 = f2 at *
              generalize (foAt L i).y1 = f3 at *
              go_wp2_with (first
                | ((with_reducible refine store_new (dst := none) 83 (.tmp 16) (.tmp 103) wr _ #[.int .i64 fs, .int .i64 f0, .int .i64 f1, .int .i64 f2, .int .i64 f3] 83 rfl ?_ ?_ ?_ ?_ ?_ ?_); rfl; rfl; exact spfInfo; rfl; (simp [Value.oneCell'])))
              rw [HW9.out, HBF.out]
              clear b0 b1 b2 b3 b4
              go_region_held3 (fun w' => Below W9.heap.size W9 w' ∧ w'.cell? ⟨bf, 0, none⟩ = some (.int .i64 fs) ∧ w'.cell? ⟨bf, 1, none⟩ = some (.int .i64 f0) ∧ w'.cell? ⟨bf, 2, none⟩ = some (.int .i64 f1) ∧ w'.cell? ⟨bf, 3, none⟩ = some (.int .i64 f2) ∧ w'.cell? ⟨bf, 4, none⟩ = some (.int .i64 f3) ∧
                  w'.cell? ⟨g, o + i * 5, none⟩ = some (.int .i64 fs) ∧ w'.cell? ⟨g, o + i * 5 + 1, none⟩ = some (.int .i64 f0) ∧ w'.cell? ⟨g, o + i * 5 + 2, none⟩ = some (.int .i64 f1) ∧ w'.cell? ⟨g, o + i * 5 + 3, none⟩ = some (.int .i64 f2) ∧ w'.cell? ⟨g, o + i * 5 + 4, none⟩ = some (.int .i64 f3))
                (first | exact HK.out _ (Below.refl _ _) | exact HK.out _ ((Below.refl _ _).drew) | exact HK.out _ (Below.onto HBx.out (And.left (by assumption)))) (first
                | ((with_reducible refine (of_any f0 f1 f2 f3 _).mono ?_); rintro e wx ⟨rfl, hbx⟩; have HBx := Lib.hid hbx; clear hbx))
              rename_i hH
              have HG := Lib.hid (Below.onto hH.1 HB9.out)
              clear hH
              go_wp2_with fail
              go_roundw
              case rel => exact ⟨i + 1, by omega, by go_num, Lib.hid (Below.onto HG.out HI.out)⟩
              case measure => simp [intOf]; omega
            · have hir : i = L.length := by omega
              subst hir
              have HB := Lib.hid (Below.onto hI.out HB8.out)
              clear hI hlt hi
              go_wp2_with fail
              go_ret
              exact ⟨rfl, HB.out⟩
end Go.Proofs.Ythinaifeifnefaa
