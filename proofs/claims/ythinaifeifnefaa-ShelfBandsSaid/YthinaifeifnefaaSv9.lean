/- The law ShelfBands. -/
import Derived.Test.YthinaifeifnefaaRs
import Derived.Test.YthinaifeifnefaaSr9
import Derived.Deep.RegionHeld3
namespace Go.Proofs.Ythinaifeifnefaa
set_option linter.unusedSimpArgs false
set_option linter.unusedVariables false
open Go.RowKit
set_option maxRecDepth 20000 in
set_option maxHeartbeats 8000000 in
theorem shelfBands_any (L : List Fo) (v : Value) (a b y : Int) (w : World) (h : IsFos w v L) (hn : L.length ≤ maxLen) : Calls Try.prog 8 #[v, .int .i64 a, .int .i64 b, .int .i64 y] w fun e w' => e = .returned (.bool true) ∧ Below w.heap.size w w' := by
  obtain ⟨A, cap0, rfl, hx1, hx2⟩ := id h
  clear hx1 hx2
  have hfw := fun w h => few_any (.slice A L.length cap0) L 40 w h hn
  cases hq : fewB L 40 with
  | false =>
    rw [hq] at hfw
    have HFW := Lib.hid hfw
    have HH := Lib.hid h
    clear hfw h hn hq
    go_enter Try.func8, Try.ntmps8
    go_wp2_with fail
    refine (speaks_any _).mono ?_
    rintro e w1 ⟨rfl, hb1⟩
    have HB1 := Lib.hid hb1
    clear hb1
    go_wp2_with fail
    refine (HFW.out _ (HH.out.below HB1.out (Nat.le_refl _))).mono ?_
    rintro e w2 ⟨rfl, hb2⟩
    have HB2 := Lib.hid (Below.onto hb2 HB1.out)
    clear hb2
    go_wp2_with fail
    refine (speaks_any _).mono ?_
    rintro e w3 ⟨rfl, hb3⟩
    have HB3 := Lib.hid (Below.onto hb3 HB2.out)
    clear hb3
    go_wp2_with fail
    go_ret
    exact ⟨rfl, HB3.out⟩
  | true =>
    rw [hq] at hfw
    have hsmr := fun w => small_any a b 0 0 w
    cases hqs : smallR a b 0 0 with
    | false =>
      rw [hqs] at hsmr
      have HSMR := Lib.hid hsmr
      have HFW := Lib.hid hfw
      have HH := Lib.hid h
      clear hfw h hn hq hsmr hqs
      go_enter Try.func8, Try.ntmps8
      go_wp2_with fail
      refine (speaks_any _).mono ?_
      rintro e w1 ⟨rfl, hb1⟩
      have HB1 := Lib.hid hb1
      clear hb1
      go_wp2_with fail
      refine (HFW.out _ (HH.out.below HB1.out (Nat.le_refl _))).mono ?_
      rintro e w2 ⟨rfl, hb2⟩
      have HB2 := Lib.hid (Below.onto hb2 HB1.out)
      clear hb2
      go_wp2_with fail
      refine (HSMR.out _).mono ?_
      rintro e w2' ⟨rfl, hb2⟩
      have HB2' := Lib.hid (Below.onto hb2 HB2.out)
      clear hb2
      go_wp2_with fail
      refine (speaks_any _).mono ?_
      rintro e w3 ⟨rfl, hb3⟩
      have HB3 := Lib.hid (Below.onto hb3 HB2'.out)
      clear hb3
      go_wp2_with fail
      go_ret
      exact ⟨rfl, HB3.out⟩
    | true =>
      obtain ⟨hsm, hl40⟩ := few_small hq
      have hbg := fun w h => begin_any (.slice A L.length cap0) L w h (by omega) hsm
      have hok := shape_ok hsm
      unfold BegPost at hbg
      obtain ⟨F, hF⟩ : ∃ F, full (shelves L) = F := ⟨_, rfl⟩
      rw [hF] at hbg hok
      have h0 := hok.pos
      have hFl : F.length ≤ 2 * L.length + 1 := hok.len
      rw [hqs] at hsmr
      have hab := hqs
      unfold smallR at hab
      simp only [Bool.and_eq_true] at hab
      obtain ⟨⟨⟨sa, sb⟩, _⟩, _⟩ := hab
      have haf := fun base lp w h => after_any F y base lp w h hok.asc (by omega) h0
      have hbd := fun base lp w h => band_any F a b base lp w h hok.asc (by omega) h0 (small_mid sa).1 (small_mid sb).1
      have hrb := fun w h => rband_any L (.slice A L.length cap0) a b w h hn
      have heq : fbB F a b = band L a b := by
        rw [← hF]
        exact IsBand.unique (fbB_is (shelves_is L (small_low hsm)) a b (by have := (small_mid sa).2; omega)) (band_is L a b)
      have hbs := below_spec F y hok.asc
      unfold AftPost at haf
      unfold BandPost at hbd
      unfold RbPost at hrb
      rw [heq] at hbd
      generalize band L a b = q at *
      have hrs := fun w h => rshelves_any L (.slice A L.length cap0) w h (by omega) (small_low hsm)
      unfold RsPost at hrs
      rw [hF] at hrs
      have HFW := Lib.hid hfw
      have HH := Lib.hid h
      have HBG := Lib.hid hbg
      have HAF := Lib.hid haf
      have HBD := Lib.hid hbd
      have HRB := Lib.hid hrb
      have HBS := Lib.hid hbs
      have HSMR := Lib.hid hsmr
      have HRS := Lib.hid hrs
      clear hfw h hn hq hsm hbg hrs hok hF haf hbd hrb hbs hsmr hqs sa sb heq
      go_enter Try.func8, Try.ntmps8
      go_wp2_with fail
      refine (speaks_any _).mono ?_
      rintro e w1 ⟨rfl, hb1⟩
      have HH1 := Lib.hid (HH.out.below hb1 (Nat.le_refl _))
      have HB1 := Lib.hid hb1
      clear hb1
      go_wp2_with fail
      refine (HFW.out _ HH1.out).mono ?_
      rintro e w2 ⟨rfl, hb2⟩
      have HH2 := Lib.hid (HH1.out.below hb2 (Nat.le_refl _))
      have HB2' := Lib.hid (Below.onto hb2 HB1.out)
      clear hb2
      go_wp2_with fail
      refine (HSMR.out _).mono ?_
      rintro e w2s ⟨rfl, hb2⟩
      have HH2s := Lib.hid (HH2.out.below hb2 (Nat.le_refl _))
      have HB2 := Lib.hid (Below.onto hb2 HB2'.out)
      clear hb2
      go_wp2_with fail
      refine (HBG.out _ HH2s.out).mono ?_
      rintro e w3 ⟨lp, rfl, hl3, hb3⟩
      have HL3 := Lib.hid hl3
      have HH3 := Lib.hid (HH2s.out.below hb3 (Nat.le_refl _))
      have HB3 := Lib.hid (Below.onto hb3 HB2.out)
      clear hb3 hl3
      go_wp2_with fail
      refine (HRB.out w3 HH3.out).mono ?_
      rintro e w4 ⟨rfl, hb4⟩
      have HH4 := Lib.hid (HH3.out.below hb4 (Nat.le_refl _))
      have HL4 := Lib.hid (HL3.out.below hb4 (Nat.le_refl _))
      have HB4 := Lib.hid (Below.onto hb4 HB3.out)
      clear hb4
      go_wp2_with fail
      refine (HBD.out _ lp w4 HL4.out).mono ?_
      rintro e w5 ⟨rfl, hb5⟩
      have HH5 := Lib.hid (HH4.out.below hb5 (Nat.le_refl _))
      have HL5 := Lib.hid (HL4.out.below hb5 (Nat.le_refl _))
      have HB5 := Lib.hid (Below.onto hb5 HB4.out)
      clear hb5
      go_wp2_with fail
      refine (HAF.out _ lp w5 HL5.out).mono ?_
      rintro e w6 ⟨rfl, hb6⟩
      have HH6 := Lib.hid (HH5.out.below hb6 (Nat.le_refl _))
      have HB6 := Lib.hid (Below.onto hb6 HB5.out)
      clear hb6
      obtain ⟨m, hm⟩ : ∃ m, below F y = m := ⟨_, rfl⟩
      have hbs' := HBS.out
      rw [hm] at hbs'
      rw [hm]
      have HBS' := Lib.hid hbs'
      clear hbs' hm
      by_cases hml : m < F.length
      · rw [if_pos hml]
        go_wp2_with fail
        refine (HRS.out w6 HH6.out).mono ?_
        rintro e w7 ⟨v7, rfl, ho7, hb7⟩
        obtain ⟨g2, cap2, rfl, hcp2, hg2, hgl2⟩ := own_form ho7 h0 rfl
        have HB7 := Lib.hid (Below.onto hb7 HB6.out)
        have HT7 := Lib.hid (shs_of_own ho7)
        clear hb7 ho7
        go_wp2_with fail
        go_loopw [60] (fun x wr => ∃ i : Nat, i ≤ m ∧ x = .int .i64 i ∧ Hid (Below w7.heap.size w7 wr)) (fun x _ => F.length - (intOf x).toNat)
        case atStart => exact ⟨0, by omega, rfl, Lib.hid (Below.refl _ _)⟩
        case round =>
          obtain ⟨i, hi, rfl, hI⟩ := hrel
          have hlt : i < F.length := by omega
          obtain ⟨b0, b1, b2⟩ := (HT7.out.below hI.out hgl2).cells hlt
          simp only [Nat.zero_add] at b0 b1 b2
          have hz := hI.out.size
          have z2 : g2 < wr.heap.size := by omega
          have hsp := HBS'.out.2 i hlt
          rw [← shAt_eq F i hlt] at hsp
          by_cases hgt : y < (shAt F i).t
          · have him : i = m := by have := hsp.2 hgt; omega
            subst him
            have hd : decide (y < (shAt F i).t) = true := decide_eq_true hgt
            have HB := Lib.hid ((Below.onto hI.out HB7.out).alloc (by have := HB7.out.size; omega) (.cells #[.int .i64 (shAt F i).t, .int .i64 (shAt F i).l, .int .i64 (shAt F i).r] 33))
            clear hsp hgt hI
            generalize (shAt F i).t = st at *
            generalize (shAt F i).l = sl at *
            generalize (shAt F i).r = sr at *
            go_wp2_with (first
              | ((with_reducible refine store_new (dst := none) 33 (.tmp 15) (.tmp 63) wr _ #[.int .i64 st, .int .i64 sl, .int .i64 sr] 33 rfl ?_ ?_ ?_ ?_ ?_ ?_); rfl; rfl; exact rshInfo; rfl; (simp [Value.oneCell'])))
            go_ret
            exact ⟨rfl, HB.out⟩
          · have him : i < m := by rcases Nat.lt_or_ge i m with h | h; exact h; exact absurd (hsp.1 h) hgt
            have hd : decide (y < (shAt F i).t) = false := decide_eq_false hgt
            clear hsp hgt
            generalize (shAt F i).t = st at *
            generalize (shAt F i).l = sl at *
            generalize (shAt F i).r = sr at *
            go_wp2_with (first
              | ((with_reducible refine store_new (dst := none) 33 (.tmp 15) (.tmp 63) wr _ #[.int .i64 st, .int .i64 sl, .int .i64 sr] 33 rfl ?_ ?_ ?_ ?_ ?_ ?_); rfl; rfl; exact rshInfo; rfl; (simp [Value.oneCell'])))
            go_roundw
            case rel => exact ⟨i + 1, by omega, by go_num, Lib.hid (hI.out.alloc hz _)⟩
            case measure => simp [intOf]; omega
      · rw [if_neg hml]
        have hmF : F.length ≤ m := by omega
        go_wp2_with fail
        refine (HRS.out w6 HH6.out).mono ?_
        rintro e w7 ⟨v7, rfl, ho7, hb7⟩
        obtain ⟨g2, cap2, rfl, hcp2, hg2, hgl2⟩ := own_form ho7 h0 rfl
        have HB7 := Lib.hid (Below.onto hb7 HB6.out)
        have HT7 := Lib.hid (shs_of_own ho7)
        clear hb7 ho7
        go_wp2_with fail
        go_loopw [60] (fun x wr => ∃ i : Nat, i ≤ F.length ∧ x = .int .i64 i ∧ Hid (Below w7.heap.size w7 wr)) (fun x _ => F.length - (intOf x).toNat)
        case atStart => exact ⟨0, by omega, rfl, Lib.hid (Below.refl _ _)⟩
        case round =>
          obtain ⟨i, hi, rfl, hI⟩ := hrel
          by_cases hlt : i < F.length
          · obtain ⟨b0, b1, b2⟩ := (HT7.out.below hI.out hgl2).cells hlt
            simp only [Nat.zero_add] at b0 b1 b2
            have hz := hI.out.size
            have z2 : g2 < wr.heap.size := by omega
            have hsp := HBS'.out.2 i hlt
            rw [← shAt_eq F i hlt] at hsp
            have hgt : ¬ y < (shAt F i).t := fun h => by have := hsp.2 h; omega
            have hd : decide (y < (shAt F i).t) = false := decide_eq_false hgt
            clear hsp hgt
            generalize (shAt F i).t = st at *
            generalize (shAt F i).l = sl at *
            generalize (shAt F i).r = sr at *
            go_wp2_with (first
              | ((with_reducible refine store_new (dst := none) 33 (.tmp 15) (.tmp 63) wr _ #[.int .i64 st, .int .i64 sl, .int .i64 sr] 33 rfl ?_ ?_ ?_ ?_ ?_ ?_); rfl; rfl; exact rshInfo; rfl; (simp [Value.oneCell'])))
            go_roundw
            case rel => exact ⟨i + 1, by omega, by go_num, Lib.hid (hI.out.alloc hz _)⟩
            case measure => simp [intOf]; omega
          · have hir : i = F.length := by omega
            subst hir
            have HB := Lib.hid (Below.onto hI.out HB7.out)
            clear hI hlt hi
            go_wp2_with fail
            go_ret
            exact ⟨rfl, HB.out⟩
end Go.Proofs.Ythinaifeifnefaa
