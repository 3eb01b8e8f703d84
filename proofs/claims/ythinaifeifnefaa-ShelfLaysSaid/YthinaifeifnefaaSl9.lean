/- The law ShelfLays. -/
import Derived.Test.YthinaifeifnefaaRs
import Derived.Deep.RegionHeld3
namespace Go.Proofs.Ythinaifeifnefaa
set_option linter.unusedSimpArgs false
set_option linter.unusedVariables false
open Go.RowKit
set_option maxRecDepth 20000 in
set_option maxHeartbeats 8000000 in
theorem shelfLays_any (L : List Fo) (v : Value) (w : World) (h : IsFos w v L) (hn : L.length ≤ maxLen) : Calls Try.prog 3 #[v] w fun e w' => e = .returned (.bool true) ∧ Below w.heap.size w w' := by
  obtain ⟨A, cap0, rfl, hx1, hx2⟩ := id h
  clear hx1 hx2
  have hfw := fun w h => few_any (.slice A L.length cap0) L 40 w h hn
  cases hq : fewB L 40 with
  | false =>
    rw [hq] at hfw
    have HFW := Lib.hid hfw
    have HH := Lib.hid h
    clear hfw h hn hq
    go_enter Try.func3, Try.ntmps3
    go_wp2_with fail
    refine (speaks_any _).mono ?_
    rintro e w1 ⟨rfl, hb1⟩
    have HB1 := Lib.hid hb1
    clear hb1
    go_wp2_with fail
    refine (HFW.out _ (HH.out.below HB1.out (Nat.le_refl _))).mono ?_
    rintro e w2 ⟨rfl, hb2⟩
    have HB2 := Lib.hid (Below.onto hb2 HB1.out)
    clear hb2
    go_wp2_with fail
    refine (speaks_any _).mono ?_
    rintro e w3 ⟨rfl, hb3⟩
    have HB3 := Lib.hid (Below.onto hb3 HB2.out)
    clear hb3
    go_wp2_with fail
    go_ret
    exact ⟨rfl, HB3.out⟩
  | true =>
    rw [hq] at hfw
    obtain ⟨hsm, hl40⟩ := few_small hq
    have hbg := fun w h => begin_any (.slice A L.length cap0) L w h (by omega) hsm
    have hok := shape_ok hsm
    unfold BegPost at hbg
    obtain ⟨F, hF⟩ : ∃ F, full (shelves L) = F := ⟨_, rfl⟩
    rw [hF] at hbg hok
    have h0 := hok.pos
    have hFl : F.length ≤ 2 * L.length + 1 := hok.len
    have hsh := fun base lp w h => shelves_any F base lp w h (by omega) h0
    have hrs := fun w h => rshelves_any L (.slice A L.length cap0) w h (by omega) (small_low hsm)
    unfold ShelvesPost at hsh
    unfold RsPost at hrs
    rw [hF] at hrs
    have HFW := Lib.hid hfw
    have HH := Lib.hid h
    have HBG := Lib.hid hbg
    have HSH := Lib.hid hsh
    have HRS := Lib.hid hrs
    clear hfw h hn hq hsm hbg hsh hrs hok hF
    go_enter Try.func3, Try.ntmps3
    go_wp2_with fail
    refine (speaks_any _).mono ?_
    rintro e w1 ⟨rfl, hb1⟩
    have HH1 := Lib.hid (HH.out.below hb1 (Nat.le_refl _))
    have HB1 := Lib.hid hb1
    clear hb1
    go_wp2_with fail
    refine (HFW.out _ HH1.out).mono ?_
    rintro e w2 ⟨rfl, hb2⟩
    have HH2 := Lib.hid (HH1.out.below hb2 (Nat.le_refl _))
    have HB2 := Lib.hid (Below.onto hb2 HB1.out)
    clear hb2
    go_wp2_with fail
    refine (HBG.out _ HH2.out).mono ?_
    rintro e w3 ⟨lp, rfl, hl3, hb3⟩
    have HL3 := Lib.hid hl3
    have HH3 := Lib.hid (HH2.out.below hb3 (Nat.le_refl _))
    have HB3 := Lib.hid (Below.onto hb3 HB2.out)
    clear hb3 hl3
    go_wp2_with fail
    refine (HSH.out _ lp w3 HL3.out).mono ?_
    rintro e w4 ⟨v4, rfl, ho4, hb4⟩
    obtain ⟨g1, cap1, rfl, hcp1, hg1, hgl1⟩ := own_form ho4 h0 rfl
    have HH4 := Lib.hid (HH3.out.below hb4 (Nat.le_refl _))
    have HB4 := Lib.hid (Below.onto hb4 HB3.out)
    have HS4 := Lib.hid (shs_of_own ho4)
    clear hb4 ho4
    go_wp2_with fail
    refine (HRS.out w4 HH4.out).mono ?_
    rintro e w5 ⟨v5, rfl, ho5, hb5⟩
    obtain ⟨g2, cap2, rfl, hcp2, hg2, hgl2⟩ := own_form ho5 h0 rfl
    have HB5 := Lib.hid (Below.onto hb5 HB4.out)
    have HS5 := Lib.hid (HS4.out.below hb5 hgl1)
    have HT5 := Lib.hid (shs_of_own ho5)
    have hgl1' : g1 < w5.heap.size := by have := hb5.size; omega
    clear hb5 ho5
    go_wp2_with fail
    go_loopw [31] (fun x wr => ∃ i : Nat, i ≤ F.length ∧ x = .int .i64 i ∧ Hid (Below w5.heap.size w5 wr)) (fun x _ => F.length - (intOf x).toNat)
    case atStart => exact ⟨0, by omega, rfl, Lib.hid (Below.refl _ _)⟩
    case round =>
      obtain ⟨i, hi, rfl, hI⟩ := hrel
      by_cases hlt : i < F.length
      · obtain ⟨a0, a1, a2⟩ := (HS5.out.below hI.out hgl1').cells (k := i) hlt
        obtain ⟨b0, b1, b2⟩ := (HT5.out.below hI.out hgl2).cells (k := i) hlt
        simp only [Nat.zero_add] at a0 a1 a2 b0 b1 b2
        have hz := hI.out.size
        have z1 : g1 < wr.heap.size := by omega
        have z2 : g2 < wr.heap.size := by omega
        generalize (shAt F i).t = st at *
        generalize (shAt F i).l = sl at *
        generalize (shAt F i).r = sr at *
        go_wp2_with (first
          | ((with_reducible refine store_new (dst := none) 32 (.tmp 7) (.tmp 35) wr _ #[.int .i64 st, .int .i64 sl, .int .i64 sr] 32 rfl ?_ ?_ ?_ ?_ ?_ ?_); rfl; rfl; exact shInfo; rfl; (simp [Value.oneCell'])))
        go_quiet (fail)
        go_wp2_with fail
        go_roundw
        case rel => exact ⟨i + 1, by omega, by go_num, Lib.hid (by have h : Below w5.heap.size w5 (wr.alloc (.cells #[.int .i64 st, .int .i64 sl, .int .i64 sr] 32)) := hI.out.alloc hz _; exact h.trans ⟨rfl, rfl, rfl, Nat.le_refl _, fun _ _ => rfl⟩)⟩
        case measure => simp [intOf]; omega
      · have hir : i = F.length := by omega
        subst hir
        have HB := Lib.hid (Below.onto hI.out HB5.out)
        clear hI hlt hi
        go_wp2_with fail
        go_ret
        exact ⟨rfl, HB.out⟩
end Go.Proofs.Ythinaifeifnefaa
