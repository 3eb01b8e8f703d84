/- The law ShelfOrder. -/
import Derived.Test.YthinaifeifnefaaFa
import Derived.Test.YthinaifeifnefaaSq9
import Derived.Deep.RegionHeld3
import Derived.Deep.RegionLaw
namespace Go.Proofs.Ythinaifeifnefaa
set_option linter.unusedSimpArgs false
set_option linter.unusedVariables false
open Go.RowKit
theorem floInfo3 : (Try.prog.info? 45).map (fun i => (i.zero, i.size, i.bytes)) = some (some (.agg #[.int .i64 0, .int .i64 0, .int .i64 0, .int .i64 0, .int .i64 0]), 5, 40) := by kernel_rfl
theorem Below.drewN'' {n : Nat} {w w' : World} (h : Below n w w') (k : Nat) : Below n w (w'.drewN k) := h.trans ⟨rfl, rfl, rfl, Nat.le_refl _, fun _ _ => rfl⟩
theorem app_keep {w W w' : World} {base : Nat} {v v' : Value} (hB : Below base w W) (hb : base ≤ W.heap.size) (hv : ∀ k, v.ownBlock = some k → base ≤ k) (hg : W.grownBy w' v.ownBlock) (ha : v'.ownBlock = v.ownBlock ∨ v'.ownBlock = some W.heap.size) :
    Below base w w' ∧ base ≤ w'.heap.size ∧ ∀ k, v'.ownBlock = some k → base ≤ k := by
  refine ⟨hB.grown hg hb hv, Nat.le_trans hb hg.size, fun k hk => ?_⟩
  rcases ha with h | h
  · exact hv k (by rw [← h]; exact hk)
  · rw [h] at hk
    injection hk with hk
    omega
theorem own_turned {w : World} {base n : Nat} {v : Value} {e : TypeId} {L : List Fo} (hn : n ≤ L.length) {m : Nat} {X : List Value} (h : w.ownsRow base e 5 v m X) (hX : X = flat foC ((([] ++ (L.take L.length).drop n) ++ (L.take n).drop 0) ++ (L.take n).drop 0)) (hm : m = (turned L n).length) : w.ownsRow base e 5 v (turned L n).length (flat foC (turned L n)) := by
  rw [← hm]
  have e1 : (([] ++ (L.take L.length).drop n) ++ (L.take n).drop 0) ++ (L.take n).drop 0 = turned L n := by unfold turned; simp
  rw [e1] at hX
  rw [← hX]
  exact h
set_option maxRecDepth 20000 in
set_option maxHeartbeats 8000000 in
theorem shelfOrder_any (L : List Fo) (v : Value) (ct a b : Int) (w : World) (h : IsFos w v L) (hn : L.length ≤ maxLen) (hc1 : 0 ≤ ct) (hc2 : ct ≤ 255) : Calls Try.prog 4 #[v, .int .u8 ct, .int .i64 a, .int .i64 b] w fun e w' => e = .returned (.bool true) ∧ Below w.heap.size w w' := by
  obtain ⟨A, cap0, rfl, hx1, hx2⟩ := id h
  clear hx1 hx2
  have hfw := fun w h => few_any (.slice A L.length cap0) L 30 w h hn
  cases hq : fewB L 30 with
  | false =>
    rw [hq] at hfw
    have HFW := Lib.hid hfw
    have HH := Lib.hid h
    clear hfw h hn hq hc1 hc2
    go_enter Try.func4, Try.ntmps4
    go_wp2_with fail
    refine (speaks_any _).mono ?_
    rintro e w1 ⟨rfl, hb1⟩
    have HB1 := Lib.hid hb1
    clear hb1
    go_wp2_with fail
    refine (HFW.out _ (HH.out.below HB1.out (Nat.le_refl _))).mono ?_
    rintro e w2 ⟨rfl, hb2⟩
    have HB2 := Lib.hid (Below.onto hb2 HB1.out)
    clear hb2
    go_wp2_with fail
    refine (speaks_any _).mono ?_
    rintro e w3 ⟨rfl, hb3⟩
    have HB3 := Lib.hid (Below.onto hb3 HB2.out)
    clear hb3
    go_wp2_with fail
    go_ret
    exact ⟨rfl, HB3.out⟩
  | true =>
    rw [hq] at hfw
    have hsmr := fun w => small_any a b 0 0 w
    cases hqs : smallR a b 0 0 with
    | false =>
      rw [hqs] at hsmr
      have HSMR := Lib.hid hsmr
      have HFW := Lib.hid hfw
      have HH := Lib.hid h
      clear hfw h hn hq hsmr hqs hc1 hc2
      go_enter Try.func4, Try.ntmps4
      go_wp2_with fail
      refine (speaks_any _).mono ?_
      rintro e w1 ⟨rfl, hb1⟩
      have HB1 := Lib.hid hb1
      clear hb1
      go_wp2_with fail
      refine (HFW.out _ (HH.out.below HB1.out (Nat.le_refl _))).mono ?_
      rintro e w2 ⟨rfl, hb2⟩
      have HB2 := Lib.hid (Below.onto hb2 HB1.out)
      clear hb2
      go_wp2_with fail
      refine (HSMR.out _).mono ?_
      rintro e w2' ⟨rfl, hb2⟩
      have HB2' := Lib.hid (Below.onto hb2 HB2.out)
      clear hb2
      go_wp2_with fail
      refine (speaks_any _).mono ?_
      rintro e w3 ⟨rfl, hb3⟩
      have HB3 := Lib.hid (Below.onto hb3 HB2'.out)
      clear hb3
      go_wp2_with fail
      go_ret
      exact ⟨rfl, HB3.out⟩
    | true =>
      obtain ⟨hsm, hl40⟩ := few_small hq
      have hab := hqs
      unfold smallR at hab
      simp only [Bool.and_eq_true] at hab
      obtain ⟨⟨⟨sa, sb⟩, _⟩, _⟩ := hab
      rw [hqs] at hsmr
      have HSMR := Lib.hid hsmr
      obtain ⟨n, hn2⟩ : ∃ n : Nat, ct.tmod ((L.length : Int) + 1) = n := ⟨(ct.tmod ((L.length : Int) + 1)).toNat, by have := Int.tmod_nonneg ((L.length : Int) + 1) hc1; omega⟩
      have hnL : n ≤ L.length := by have := Int.tmod_lt_of_pos ct (show (0 : Int) < (L.length : Int) + 1 by omega); omega
      have hturn := turned_same hsm n
      have htsm := turned_small hsm n
      have hmore := part_more hsm n a b (by have := (small_mid sa).2; omega)
      have hbw := fun w h => begin_any (.slice A L.length cap0) L w h (by omega) hsm
      have hbp := fun w h => begin_any (.slice A n cap0) (L.take n) w h (by rw [List.length_take]; omega) (fun f hf => hsm f (List.mem_of_mem_take hf))
      unfold BegPost at hbw hbp
      have HBW := Lib.hid hbw
      have HBP := Lib.hid hbp
      have hhp : ∀ w', IsFos w' (.slice A L.length cap0) L → IsFos w' (.slice A n cap0) (L.take n) := by
        rintro w' ⟨A', cap', e, hc, hA⟩
        simp at e
        obtain ⟨rfl, rfl⟩ := e
        refine ⟨A, cap0, by rw [List.length_take, Nat.min_eq_left hnL], by rw [List.length_take]; omega, fun h0 => ?_⟩
        rw [List.length_take] at h0
        obtain ⟨g, o, rfl, hg, hs⟩ := hA (by omega)
        refine ⟨g, o, rfl, hg, fun k hk => ?_⟩
        rw [List.length_take] at hk
        have e : foAt (L.take n) k = foAt L k := by rw [foAt_eq _ _ (by rw [List.length_take]; omega), foAt_eq _ _ (by omega), List.getElem_take]
        rw [e]
        exact hs k (by omega)
      have HHP := Lib.hid hhp
      have hAB := Lib.hid (And.intro (small_mid sa).1 (small_mid sb).1)
      have HFW := Lib.hid hfw
      have HH := Lib.hid h
      have HSM := Lib.hid hsm
      have HTU := Lib.hid hturn
      have HTS := Lib.hid htsm
      have HMO := Lib.hid hmore
      clear hfw h hn hq hqs hsmr hsm hturn htsm hmore sa sb hbw hbp hhp
      go_enter Try.func4, Try.ntmps4
      go_wp2_with fail
      refine (speaks_any _).mono ?_
      rintro e w1 ⟨rfl, hb1⟩
      have HH1 := Lib.hid (HH.out.below hb1 (Nat.le_refl _))
      have HB1 := Lib.hid hb1
      clear hb1
      go_wp2_with fail
      refine (HFW.out _ HH1.out).mono ?_
      rintro e w2 ⟨rfl, hb2⟩
      have HH2 := Lib.hid (HH1.out.below hb2 (Nat.le_refl _))
      have HB2' := Lib.hid (Below.onto hb2 HB1.out)
      clear hb2
      go_wp2_with fail
      refine (HSMR.out _).mono ?_
      rintro e w2s ⟨rfl, hb2⟩
      have HH2s := Lib.hid (HH2.out.below hb2 (Nat.le_refl _))
      have HB2 := Lib.hid (Below.onto hb2 HB2'.out)
      clear hb2
      go_wp2_with fail
      have hw1 : IntKind.i64.wrap ct = ct := by rw [IntKind.wrap_i64]; omega
      have hw2 : IntKind.i64.wrap ((L.length : Int) + 1) = (L.length : Int) + 1 := by rw [IntKind.wrap_i64]; omega
      have hw3 : IntKind.i64.wrap (n : Int) = (n : Int) := by rw [IntKind.wrap_i64]; omega
      have hw4 : ((L.length : Int) + 1 == 0) = false := by rw [beq_eq_false_iff_ne]; omega
      have hcn : L.length ≤ cap0 := by obtain ⟨A', cap', e, hc, _⟩ := HH.out; simp at e; omega
      have hnc : n ≤ cap0 := by omega
      go_region_held3 (fun w' => Below w2s.heap.size w2s w') (first | exact Below.refl _ _ | exact (Below.refl _ _).drew | exact Below.onto HBx.out (by assumption)) (first
        | ((with_reducible refine (HBW.out _ (HH2s.out.below (by assumption) (Nat.le_refl _))).mono ?_); rintro e wx ⟨lp1, rfl, hl1, hbx⟩; have HL1 := Lib.hid hl1; have HBx := Lib.hid hbx; clear hl1 hbx)
        | ((with_reducible refine (HBP.out _ (HHP.out _ (HH2s.out.below (by assumption) (Nat.le_refl _)))).mono ?_); rintro e wx ⟨lp2, rfl, hl2, hbx⟩; have HL2 := Lib.hid hl2; have HBx := Lib.hid hbx; clear hl2 hbx))
      rename_i wy HBy hH
      have HW := Lib.hid hH
      have HL1' := Lib.hid (HL1.out.below HBx.out (Nat.le_refl _))
      have HHx := Lib.hid (HH2s.out.below hH (Nat.le_refl _))
      clear hH HL1 HBx HBy hw1 hw2 hw3 hw4
      go_wp2_with fail
      have hbt := fun v w h => begin_any v (turned L n) w h (by unfold turned; simp only [List.length_append, List.length_take, List.length_drop]; omega) HTS.out
      unfold BegPost at hbt
      have HBT := Lib.hid hbt
      clear hbt
      have hcx := HHx.out
      have hwx := HW.out.size
      go_cut [12] (fun p wd => ∃ lp3 : Nat, p = .pointer (some ⟨lp3, 0, none⟩) ∧ ListIs wd wx.heap.size lp3 (full (shelves (turned L n))) ∧ Below wx.heap.size wx wd)
      case first =>
        have hp2 : ∀ W, Below wx.heap.size wx W → IsFos W (.slice A n cap0) ((L.take n).drop 0) := fun W hW => (hcx.part 0 n hnL (Nat.zero_le _) cap0 (by omega) A (fun _ => by cases A <;> simp [Addr.add])).below hW (Nat.le_refl _)
        have HP2 := Lib.hid hp2
        clear hp2
        rcases Nat.eq_or_lt_of_le hnc with he | hlt
        · obtain rfl : n = L.length := by omega
          obtain rfl := he
          have hp1 : ∀ W, Below wx.heap.size wx W → IsFos W (.slice A 0 0) ((L.take L.length).drop L.length) := fun W hW => ((by simpa using hcx.part L.length L.length (Nat.le_refl _) hnL 0 (by omega) A (fun h => absurd h (by omega)) : IsFos wx (.slice A 0 0) ((L.take L.length).drop L.length))).below hW (Nat.le_refl _)
          have HP1 := Lib.hid hp1
          clear hp1 hcx
          go_region_held3 (fun _ => True) (exact True.intro) (first
            | (refine step_append_fos (by rfl) (.tmp 46) (.tmp 49) (by rfl) (.slice (some ⟨wx.heap.size, 0, none⟩) 0 0) _ (by rfl) (by rfl) wx.heap.size 0 [] _ (World.ownsRow_lit wx #[] 0 (Nat.le_refl _) (by decide) rfl) (HP1.out _ (by (repeat (first | exact Below.refl _ _ | (refine Below.alloc ?_ (by first | omega | (simp; done) | (simp; omega)) _) | (refine Below.on (by assumption) ?_ (by first | omega | (simp; done) | (simp; omega))) | (refine Below.grown ?_ (by assumption) (by first | omega | (simp; done) | (simp; omega)) (by intro k hk; cases hk)) | refine Below.drew ?_)))) (by rw [List.length_drop, List.length_take]; omega) (by simp) ?_; intro v6 w6 ho6 hg6 ha6; have HO6 := Lib.hid ho6; have HA6 := Lib.hid (app_keep (w := wx) (base := wx.heap.size) (by (repeat (first | exact Below.refl _ _ | (refine Below.alloc ?_ (by first | omega | (simp; done) | (simp; omega)) _) | (refine Below.on (by assumption) ?_ (by first | omega | (simp; done) | (simp; omega))) | (refine Below.grown ?_ (by assumption) (by first | omega | (simp; done) | (simp; omega)) (by intro k hk; cases hk)) | refine Below.drew ?_))) (by simp) (by intro k hk; simp [Value.ownBlock] at hk; omega) hg6 ha6); clear ho6 hg6 ha6)
            | (refine step_append_fos (by rfl) (.tmp 50) (.tmp 53) (by rfl) v6 _ (by rfl) (by rfl) wx.heap.size _ _ _ HO6.out (HP2.out _ HA6.out.1) (by simp only [List.length_drop, List.length_take]; omega) HA6.out.2.1 ?_; intro v7 w7 ho7 hg7 ha7; have HO7 := Lib.hid ho7; have HA7 := Lib.hid (app_keep HA6.out.1 HA6.out.2.1 HA6.out.2.2 hg7 ha7); clear ho7 hg7 ha7)
            | (refine step_append_fos (by rfl) (.tmp 54) (.tmp 57) (by rfl) v7 _ (by rfl) (by rfl) wx.heap.size _ _ _ HO7.out (HP2.out _ HA7.out.1) (by simp only [List.length_drop, List.length_take]; omega) HA7.out.2.1 ?_; intro v8 w8 ho8 hg8 ha8; have HO8 := Lib.hid ho8; have HA8 := Lib.hid (app_keep HA7.out.1 HA7.out.2.1 HA7.out.2.2 hg8 ha8); clear ho8 hg8 ha8)
            | ((with_reducible refine (HBT.out v8 w8 (isFos_of_own (L := turned L L.length) (own_turned hnL HO8.out rfl (by unfold turned; simp only [List.length_append, List.length_take, List.length_drop]; omega)) rfl)).mono ?_); rintro e wz ⟨lp3, rfl, hl3, hbz⟩; have HL3 := Lib.hid (hl3.mono HA8.out.2.1); have HBz := Lib.hid (HA8.out.1.trans (hbz.mono HA8.out.2.1)); clear hl3 hbz))
          go_wp2_with fail
          go_meet
          case rel => exact ⟨lp3, rfl, HL3.out, HBz.out⟩
        · have hnc2 : ¬ cap0 = n := by omega
          have hp1 : ∀ W, Below wx.heap.size wx W → IsFos W (.slice (A.map (·.add (n * 5))) (L.length - n) (cap0 - n)) ((L.take L.length).drop n) := fun W hW => (hcx.part n L.length (Nat.le_refl _) hnL (cap0 - n) (by omega) _ (fun _ => rfl)).below hW (Nat.le_refl _)
          have HP1 := Lib.hid hp1
          clear hp1 hcx
          go_region_held3 (fun _ => True) (exact True.intro) (first
            | (refine step_append_fos (by rfl) (.tmp 46) (.tmp 49) (by rfl) (.slice (some ⟨wx.heap.size, 0, none⟩) 0 0) _ (by rfl) (by rfl) wx.heap.size 0 [] _ (World.ownsRow_lit wx #[] 0 (Nat.le_refl _) (by decide) rfl) (HP1.out _ (by (repeat (first | exact Below.refl _ _ | (refine Below.alloc ?_ (by first | omega | (simp; done) | (simp; omega)) _) | (refine Below.on (by assumption) ?_ (by first | omega | (simp; done) | (simp; omega))) | (refine Below.grown ?_ (by assumption) (by first | omega | (simp; done) | (simp; omega)) (by intro k hk; cases hk)) | refine Below.drew ?_)))) (by rw [List.length_drop, List.length_take]; omega) (by simp) ?_; intro v6 w6 ho6 hg6 ha6; have HO6 := Lib.hid ho6; have HA6 := Lib.hid (app_keep (w := wx) (base := wx.heap.size) (by (repeat (first | exact Below.refl _ _ | (refine Below.alloc ?_ (by first | omega | (simp; done) | (simp; omega)) _) | (refine Below.on (by assumption) ?_ (by first | omega | (simp; done) | (simp; omega))) | (refine Below.grown ?_ (by assumption) (by first | omega | (simp; done) | (simp; omega)) (by intro k hk; cases hk)) | refine Below.drew ?_))) (by simp) (by intro k hk; simp [Value.ownBlock] at hk; omega) hg6 ha6); clear ho6 hg6 ha6)
            | (refine step_append_fos (by rfl) (.tmp 50) (.tmp 53) (by rfl) v6 _ (by rfl) (by rfl) wx.heap.size _ _ _ HO6.out (HP2.out _ HA6.out.1) (by simp only [List.length_drop, List.length_take]; omega) HA6.out.2.1 ?_; intro v7 w7 ho7 hg7 ha7; have HO7 := Lib.hid ho7; have HA7 := Lib.hid (app_keep HA6.out.1 HA6.out.2.1 HA6.out.2.2 hg7 ha7); clear ho7 hg7 ha7)
            | (refine step_append_fos (by rfl) (.tmp 54) (.tmp 57) (by rfl) v7 _ (by rfl) (by rfl) wx.heap.size _ _ _ HO7.out (HP2.out _ HA7.out.1) (by simp only [List.length_drop, List.length_take]; omega) HA7.out.2.1 ?_; intro v8 w8 ho8 hg8 ha8; have HO8 := Lib.hid ho8; have HA8 := Lib.hid (app_keep HA7.out.1 HA7.out.2.1 HA7.out.2.2 hg8 ha8); clear ho8 hg8 ha8)
            | ((with_reducible refine (HBT.out v8 w8 (isFos_of_own (L := turned L n) (own_turned hnL HO8.out rfl (by unfold turned; simp only [List.length_append, List.length_take, List.length_drop]; omega)) rfl)).mono ?_); rintro e wz ⟨lp3, rfl, hl3, hbz⟩; have HL3 := Lib.hid (hl3.mono HA8.out.2.1); have HBz := Lib.hid (HA8.out.1.trans (hbz.mono HA8.out.2.1)); clear hl3 hbz))
          go_wp2_with fail
          go_meet
          case rel => exact ⟨lp3, rfl, HL3.out, HBz.out⟩
      obtain ⟨lp3, rfl, hl3, hb3⟩ := hcut
      have HL3 := Lib.hid hl3
      have HL1c := Lib.hid (HL1'.out.below hb3 (Nat.le_refl _))
      have HL2c := Lib.hid (HL2.out.below hb3 (Nat.le_refl _))
      have HW3 := Lib.hid (Below.onto hb3 HW.out)
      clear hl3 hb3
      have hAT := full_asc (shelves_ok (L := L) HSM.out)
      have hAP := full_asc (shelves_ok (L := L.take n) (fun f hf => HSM.out f (List.mem_of_mem_take hf)))
      have hls := shelves_length L
      have hlp := shelves_length (L.take n)
      rw [List.length_take] at hlp
      obtain ⟨F, hF⟩ : ∃ F, full (shelves L) = F := ⟨_, rfl⟩
      obtain ⟨G, hG⟩ : ∃ G, full (shelves (L.take n)) = G := ⟨_, rfl⟩
      have hFl : F.length ≤ 1000 := by rw [← hF]; show (shelves L).length + 1 ≤ _; omega
      have hGl : G.length ≤ 1000 := by rw [← hG]; show (shelves (L.take n)).length + 1 ≤ _; omega
      have h0 : 0 < F.length := by rw [← hF]; exact Nat.succ_pos _
      have h0G : 0 < G.length := by rw [← hG]; exact Nat.succ_pos _
      rw [hF] at hAT
      rw [hG] at hAP
      have hsh := fun base lp w h => shelves_any F base lp w h (by omega) h0
      unfold ShelvesPost at hsh
      have hb1 := fun base lp w h => band_any F a b base lp w h hAT (by omega) h0 hAB.out.1 hAB.out.2
      have hb2 := fun base lp w h => band_any G a b base lp w h hAP (by omega) h0G hAB.out.1 hAB.out.2
      unfold BandPost at hb1 hb2
      have hmo := HMO.out
      rw [hF, hG] at hmo
      generalize fbB F a b = p at *
      generalize fbB G a b = q at *
      obtain ⟨p1, p2⟩ := p
      obtain ⟨q1, q2⟩ := q
      simp only at hmo hb1 hb2
      have hl3 := HL3.out
      rw [HTU.out, hF] at hl3
      have hl1 := HL1c.out
      rw [hF] at hl1
      have hl2 := HL2c.out
      rw [hG] at hl2
      have M3 := Lib.hid hl3
      have M1 := Lib.hid hl1
      have M2 := Lib.hid hl2
      have HSH := Lib.hid hsh
      have HBA := Lib.hid hb1
      have HBB := Lib.hid hb2
      have HMQ := Lib.hid hmo
      have HB3 := Lib.hid (Below.onto HW3.out HB2.out)
      clear hl3 hl1 hl2 hsh hb1 hb2 hmo hF hG hAT hAP hls hlp HMO HTU HTS HL3 HL1c HL2c HW3 HL1' HHx HH2s HW HL2 hcx HBT
      go_wp2_with fail
      refine (HSH.out _ lp1 wc M1.out).mono ?_
      rintro e w4 ⟨v4, rfl, ho4, hb4⟩
      obtain ⟨g1, cap1, rfl, hcp1, hg1, hgl1⟩ := own_form ho4 h0 rfl
      have HS4 := Lib.hid (shs_of_own ho4)
      have N1 := Lib.hid (M1.out.below hb4 (Nat.le_refl _))
      have N2 := Lib.hid (M2.out.below hb4 (Nat.le_refl _))
      have N3 := Lib.hid (M3.out.below hb4 (Nat.le_refl _))
      have HB4 := Lib.hid (Below.onto hb4 HB3.out)
      clear hb4 ho4 M1 M2 M3
      go_wp2_with fail
      refine (HSH.out _ lp3 w4 N3.out).mono ?_
      rintro e w5 ⟨v5, rfl, ho5, hb5⟩
      obtain ⟨g2, cap2, rfl, hcp2, hg2, hgl2⟩ := own_form ho5 h0 rfl
      have HB5 := Lib.hid (Below.onto hb5 HB4.out)
      have HS5 := Lib.hid (HS4.out.below hb5 hgl1)
      have HT5 := Lib.hid (shs_of_own ho5)
      have O1 := Lib.hid (N1.out.below hb5 (Nat.le_refl _))
      have O2 := Lib.hid (N2.out.below hb5 (Nat.le_refl _))
      have hgl1' : g1 < w5.heap.size := by have := hb5.size; omega
      clear hb5 ho5 N1 N2 N3
      go_wp2_with fail
      go_loopw [81] (fun x wr => ∃ i : Nat, i ≤ F.length ∧ x = .int .i64 i ∧ Hid (Below w5.heap.size w5 wr)) (fun x _ => F.length - (intOf x).toNat)
      case atStart => exact ⟨0, by omega, rfl, Lib.hid (Below.refl _ _)⟩
      case round =>
        obtain ⟨i, hi, rfl, hI⟩ := hrel
        by_cases hlt : i < F.length
        · obtain ⟨a0, a1, a2⟩ := (HS5.out.below hI.out hgl1').cells (k := i) hlt
          obtain ⟨b0, b1, b2⟩ := (HT5.out.below hI.out hgl2).cells (k := i) hlt
          simp only [Nat.zero_add] at a0 a1 a2 b0 b1 b2
          have hz := hI.out.size
          have z1 : g1 < wr.heap.size := by omega
          have z2 : g2 < wr.heap.size := by omega
          generalize (shAt F i).t = st at *
          generalize (shAt F i).l = sl at *
          generalize (shAt F i).r = sr at *
          go_wp2_with fail
          go_quiet (fail)
          go_wp2_with fail
          go_roundw
          case rel => exact ⟨i + 1, by omega, by go_num, Lib.hid (Below.drewN'' hI.out _)⟩
          case measure => simp [intOf]; omega
        · have hir : i = F.length := by omega
          have HB := Lib.hid (Below.onto hI.out HB5.out)
          have P1 := Lib.hid (O1.out.below hI.out (Nat.le_refl _))
          have P2 := Lib.hid (O2.out.below hI.out (Nat.le_refl _))
          clear hI hlt hi
          subst hir
          go_wp2_with (first
            | ((with_reducible refine store_new (dst := none) 38 (.tmp 16) (.tmp 96) wr _ #[.int .i64 a, .int .i64 b] 38 rfl ?_ ?_ ?_ ?_ ?_ ?_); rfl; rfl; exact spanInfo; rfl; (simp [Value.oneCell'])))
          have hnew : Below wr.heap.size wr (wr.alloc (.cells #[.int .i64 a, .int .i64 b] 38)) := (Below.refl wr.heap.size wr).alloc (Nat.le_refl _) _
          have hs7 := P1.out.below hnew (Nat.le_refl _)
          have ht7 := P2.out.below hnew (Nat.le_refl _)
          have hx7 := Below.onto hnew HB.out
          have hv7 := heap_alloc_new wr (.cells #[.int .i64 a, .int .i64 b] 38)
          clear hnew
          generalize wr.alloc (.cells #[.int .i64 a, .int .i64 b] 38) = x7 at *
          obtain ⟨bR, hbR⟩ : ∃ b, wr.heap.size = b := ⟨_, rfl⟩
          rw [hbR] at hv7 ⊢
          have hRl : bR < x7.heap.size := (Array.getElem?_eq_some_iff.1 hv7).1
          have HK : Hid (∀ w' : World, Below x7.heap.size x7 w' → (Below x7.heap.size x7 w' ∧ w'.cell? ⟨bR, 0, none⟩ = some (.int .i64 a) ∧ w'.cell? ⟨bR, 1, none⟩ = some (.int .i64 b))) := fun w' e => ⟨e, cell_of_row w' bR 0 _ _ (0, 0) ((e.block bR hRl).trans hv7), cell_of_row w' bR 1 _ _ (0, 0) ((e.block bR hRl).trans hv7)⟩
          have HS7 := Lib.hid hs7
          have HT7 := Lib.hid ht7
          have HX7 := Lib.hid hx7
          clear hs7 ht7 hx7 hv7 hbR P1 P2 HB
          (try simp only [Act.put])
          go_cut [17, 18] (fun p13 p14 wd => ∃ b13 b14 : Nat, p13 = .pointer (some ⟨b13, 0, none⟩) ∧ p14 = .pointer (some ⟨b14, 0, none⟩) ∧ wd.heap[b13]? = some (.cells #[.int .i64 p1, .int .i64 p2] 38 (0, 0)) ∧ wd.heap[b14]? = some (.cells #[.int .i64 q1, .int .i64 q2] 38 (0, 0)) ∧ Below x7.heap.size x7 wd)
          case first =>
            /- GENTWO -/
            refine wp_region_held_drew (S := (fun w' => Below x7.heap.size x7 w' ∧ w'.cell? ⟨bR, 0, none⟩ = some (.int .i64 a) ∧ w'.cell? ⟨bR, 1, none⟩ = some (.int .i64 b))) (by kernel_rfl) (HK.out _ ((Below.refl _ _).drew)) (fun hHeld => ?_)
            refine wpAnyH_take (i := 0) (v := ?_) rfl (by kernel_rfl) (by kernel_rfl) (by kernel_rfl) (fun _ _ _ h => h) (Or.inl ⟨by rfl, ?_⟩) (by assumption) ?_
            rotate_left
            focus ((intro wS hSw; (try dsimp only at hSw); go_simp); (try (with_reducible rfl)))
            simp only [Act.put, List.getElem_toArray, List.getElem_cons_zero, List.getElem_cons_succ, List.setIfInBounds_toArray, List.set_cons_zero, List.set_cons_succ]
            refine wpAnyH_take (i := 1) (v := ?_) rfl (by kernel_rfl) (by kernel_rfl) (by kernel_rfl) (fun _ _ _ h => h) (Or.inl ⟨by rfl, ?_⟩) (by assumption) ?_
            rotate_left
            focus ((intro wS hSw; (try dsimp only at hSw); go_simp); (try (with_reducible rfl)))
            simp only [Act.put, List.getElem_toArray, List.getElem_cons_zero, List.getElem_cons_succ, List.setIfInBounds_toArray, List.set_cons_zero, List.set_cons_succ]
            refine wpAnyH_take (i := 3) (v := ?_) rfl (by kernel_rfl) (by kernel_rfl) (by kernel_rfl) (fun _ _ _ h => h) (Or.inl ⟨by rfl, ?_⟩) (by assumption) ?_
            rotate_left
            focus ((intro wS hSw; (try dsimp only at hSw); go_simp); (try (with_reducible rfl)))
            simp only [Act.put, List.getElem_toArray, List.getElem_cons_zero, List.getElem_cons_succ, List.setIfInBounds_toArray, List.set_cons_zero, List.set_cons_succ]
            refine wpAnyH_take (i := 4) (v := ?_) rfl (by kernel_rfl) (by kernel_rfl) (by kernel_rfl) (fun _ _ _ h => h) (Or.inl ⟨by rfl, ?_⟩) (by assumption) ?_
            rotate_left
            focus ((intro wS hSw; (try dsimp only at hSw); go_simp); (try (with_reducible rfl)))
            simp only [Act.put, List.getElem_toArray, List.getElem_cons_zero, List.getElem_cons_succ, List.setIfInBounds_toArray, List.set_cons_zero, List.set_cons_succ]
            refine wpAnyH_ready (rs := [2, 6, 7]) (by kernel_rfl) (by simp) ?_
            refine AllReadyH.cons rfl (fun K hK => ?_) ?_
            · skip
              go_simp
              refine (HBA.out _ lp1 _ (HS7.out.below hHeld.1 (Nat.le_refl _))).mono ?_
              rintro e wx1 ⟨rfl, hbx⟩
              have HE1 := Lib.hid (Below.onto hbx hHeld.1)
              have he1 := HE1.out.size
              have hz1 := hbx.size
              (try simp at hz1)
              refine hK.out _ _ (HK.out _ HE1.out) (fun hHeld => ?_)
              clear hK K hbx
              (try simp only [Act.put, List.getElem_toArray, List.getElem_cons_zero, List.getElem_cons_succ, List.setIfInBounds_toArray, List.set_cons_zero, List.set_cons_succ])
              refine wpAnyH_ready (rs := [5, 6, 7]) (by kernel_rfl) (by simp) ?_
              refine AllReadyH.cons rfl (fun K hK => ?_) ?_
              · skip
                go_simp
                refine (HBB.out _ lp2 _ (HT7.out.below hHeld.1 (Nat.le_refl _))).mono ?_
                rintro e wx2 ⟨rfl, hbx⟩
                have HE2 := Lib.hid (Below.onto hbx hHeld.1)
                have he2 := HE2.out.size
                have hz2 := hbx.size
                (try simp at hz2)
                refine hK.out _ _ (HK.out _ HE2.out) (fun hHeld => ?_)
                clear hK K hbx
                (try simp only [Act.put, List.getElem_toArray, List.getElem_cons_zero, List.getElem_cons_succ, List.setIfInBounds_toArray, List.set_cons_zero, List.set_cons_succ])
                refine wpAnyH_ready (rs := [6, 7]) (by kernel_rfl) (by simp) ?_
                refine AllReadyH.cons rfl (fun K hK => ?_) ?_
                · skip
                  go_simp
                  refine hK.out _ _ (HK.out _ (by first | exact (Below.alloc (HE2.out) (by first | omega | (simp; done) | (simp; omega)) _) | exact ((Below.alloc (HE2.out) (by first | omega | (simp; done) | (simp; omega)) _)).drew)) (fun hHeld => ?_)
                  clear hK K
                  (try simp only [Act.put, List.getElem_toArray, List.getElem_cons_zero, List.getElem_cons_succ, List.setIfInBounds_toArray, List.set_cons_zero, List.set_cons_succ])
                  refine wpAnyH_ready (rs := [7]) (by kernel_rfl) (by simp) ?_
                  refine AllReadyH.cons rfl (fun K hK => ?_) AllReadyH.nil
                  go_simp
                  refine hK.out _ _ (HK.out _ (by first | exact (Below.alloc ((Below.alloc (HE2.out) (by first | omega | (simp; done) | (simp; omega)) _)) (by first | omega | (simp; done) | (simp; omega)) _) | exact ((Below.alloc ((Below.alloc (HE2.out) (by first | omega | (simp; done) | (simp; omega)) _)) (by first | omega | (simp; done) | (simp; omega)) _)).drew)) (fun hHeld => ?_)
                  clear hK K
                  (try simp only [Act.put, List.getElem_toArray, List.getElem_cons_zero, List.getElem_cons_succ, List.setIfInBounds_toArray, List.set_cons_zero, List.set_cons_succ])
                  have hFA : ((wx2.alloc (.cells #[.int .i64 0, .int .i64 0] 38)).alloc (.cells #[.int .i64 0, .int .i64 0] 38)).heap[wx2.heap.size]? = some (.cells #[.int .i64 0, .int .i64 0] 38 (0, 0)) := old_some (heap_alloc_new wx2 _)
                  have hFB : ((wx2.alloc (.cells #[.int .i64 0, .int .i64 0] 38)).alloc (.cells #[.int .i64 0, .int .i64 0] 38)).heap[wx2.heap.size + 1]? = some (.cells #[.int .i64 0, .int .i64 0] 38 (0, 0)) := heap_alloc2_new wx2 _ _
                  have hFW : Below x7.heap.size x7 ((wx2.alloc (.cells #[.int .i64 0, .int .i64 0] 38)).alloc (.cells #[.int .i64 0, .int .i64 0] 38)) := hHeld.1
                  have hne : wx2.heap.size ≠ wx2.heap.size + 1 := by omega
                  have hgA : x7.heap.size ≤ wx2.heap.size := by omega
                  have hgB : x7.heap.size ≤ wx2.heap.size + 1 := by omega
                  generalize ((wx2.alloc (.cells #[.int .i64 0, .int .i64 0] 38)).alloc (.cells #[.int .i64 0, .int .i64 0] 38)) = W9 at *
                  skip
                  skip
                  have a0 := cell_of_row W9 (wx2.heap.size) 0 _ _ (0, 0) hFA
                  have a1 := cell_of_row W9 (wx2.heap.size) 1 _ _ (0, 0) hFA
                  have b0 := cell_of_row W9 (wx2.heap.size + 1) 0 _ _ (0, 0) hFB
                  have b1 := cell_of_row W9 (wx2.heap.size + 1) 1 _ _ (0, 0) hFB
                  have fa0 := frozen_of_row W9 (wx2.heap.size) 0 _ _ hFA
                  have fa1 := frozen_of_row W9 (wx2.heap.size) 1 _ _ hFA
                  have fb0 := frozen_of_row W9 (wx2.heap.size + 1) 0 _ _ hFB
                  have fb1 := frozen_of_row W9 (wx2.heap.size + 1) 1 _ _ hFB
                  have hab : (wx2.heap.size = wx2.heap.size + 1) = False := eq_false hne
                  have hba : (wx2.heap.size + 1 = wx2.heap.size) = False := eq_false (Ne.symm hne)
                  refine wpAnyH_ready (rs := [8]) (by kernel_rfl) (by simp) ?_
                  refine AllReadyH.cons rfl (fun K hK => ?_) AllReadyH.nil
                  go_simp
                  refine hK.out _ _ (HK.out _ (Below.setCell (Below.setCell hFW hgA _) hgA _)) (fun hHeld => ?_)
                  clear hK K
                  (try simp only [Act.put, List.getElem_toArray, List.getElem_cons_zero, List.getElem_cons_succ, List.setIfInBounds_toArray, List.set_cons_zero, List.set_cons_succ])
                  refine wpAnyH_ready (rs := [9]) (by kernel_rfl) (by simp) ?_
                  refine AllReadyH.cons rfl (fun K hK => ?_) AllReadyH.nil
                  go_simp
                  refine hK.out _ _ (HK.out _ (Below.setCell (Below.setCell (Below.setCell (Below.setCell hFW hgA _) hgA _) hgB _) hgB _)) (fun hHeld => ?_)
                  clear hK K
                  (try simp only [Act.put, List.getElem_toArray, List.getElem_cons_zero, List.getElem_cons_succ, List.setIfInBounds_toArray, List.set_cons_zero, List.set_cons_succ])
                  refine wpAnyH_done (by kernel_rfl) ?_ _
                  have HF := Lib.hid hHeld.1
                  clear hHeld a0 a1 b0 b1 fa0 fa1 fb0 fb1 hab hba
                  go_wp2_with fail
                  go_meet
                  case rel => exact ⟨_, _, rfl, rfl, (heap4 hne hFA hFB).1, (heap4 hne hFA hFB).2, HF.out⟩
                · refine AllReadyH.cons rfl (fun K hK => ?_) AllReadyH.nil
                  go_simp
                  refine hK.out _ _ (HK.out _ (by first | exact (Below.alloc (HE2.out) (by first | omega | (simp; done) | (simp; omega)) _) | exact ((Below.alloc (HE2.out) (by first | omega | (simp; done) | (simp; omega)) _)).drew)) (fun hHeld => ?_)
                  clear hK K
                  (try simp only [Act.put, List.getElem_toArray, List.getElem_cons_zero, List.getElem_cons_succ, List.setIfInBounds_toArray, List.set_cons_zero, List.set_cons_succ])
                  refine wpAnyH_ready (rs := [6]) (by kernel_rfl) (by simp) ?_
                  refine AllReadyH.cons rfl (fun K hK => ?_) AllReadyH.nil
                  go_simp
                  refine hK.out _ _ (HK.out _ (by first | exact (Below.alloc ((Below.alloc (HE2.out) (by first | omega | (simp; done) | (simp; omega)) _)) (by first | omega | (simp; done) | (simp; omega)) _) | exact ((Below.alloc ((Below.alloc (HE2.out) (by first | omega | (simp; done) | (simp; omega)) _)) (by first | omega | (simp; done) | (simp; omega)) _)).drew)) (fun hHeld => ?_)
                  clear hK K
                  (try simp only [Act.put, List.getElem_toArray, List.getElem_cons_zero, List.getElem_cons_succ, List.setIfInBounds_toArray, List.set_cons_zero, List.set_cons_succ])
                  have hFA : ((wx2.alloc (.cells #[.int .i64 0, .int .i64 0] 38)).alloc (.cells #[.int .i64 0, .int .i64 0] 38)).heap[wx2.heap.size + 1]? = some (.cells #[.int .i64 0, .int .i64 0] 38 (0, 0)) := heap_alloc2_new wx2 _ _
                  have hFB : ((wx2.alloc (.cells #[.int .i64 0, .int .i64 0] 38)).alloc (.cells #[.int .i64 0, .int .i64 0] 38)).heap[wx2.heap.size]? = some (.cells #[.int .i64 0, .int .i64 0] 38 (0, 0)) := old_some (heap_alloc_new wx2 _)
                  have hFW : Below x7.heap.size x7 ((wx2.alloc (.cells #[.int .i64 0, .int .i64 0] 38)).alloc (.cells #[.int .i64 0, .int .i64 0] 38)) := hHeld.1
                  have hne : wx2.heap.size + 1 ≠ wx2.heap.size := by omega
                  have hgA : x7.heap.size ≤ wx2.heap.size + 1 := by omega
                  have hgB : x7.heap.size ≤ wx2.heap.size := by omega
                  generalize ((wx2.alloc (.cells #[.int .i64 0, .int .i64 0] 38)).alloc (.cells #[.int .i64 0, .int .i64 0] 38)) = W9 at *
                  skip
                  skip
                  have a0 := cell_of_row W9 (wx2.heap.size + 1) 0 _ _ (0, 0) hFA
                  have a1 := cell_of_row W9 (wx2.heap.size + 1) 1 _ _ (0, 0) hFA
                  have b0 := cell_of_row W9 (wx2.heap.size) 0 _ _ (0, 0) hFB
                  have b1 := cell_of_row W9 (wx2.heap.size) 1 _ _ (0, 0) hFB
                  have fa0 := frozen_of_row W9 (wx2.heap.size + 1) 0 _ _ hFA
                  have fa1 := frozen_of_row W9 (wx2.heap.size + 1) 1 _ _ hFA
                  have fb0 := frozen_of_row W9 (wx2.heap.size) 0 _ _ hFB
                  have fb1 := frozen_of_row W9 (wx2.heap.size) 1 _ _ hFB
                  have hab : (wx2.heap.size + 1 = wx2.heap.size) = False := eq_false hne
                  have hba : (wx2.heap.size = wx2.heap.size + 1) = False := eq_false (Ne.symm hne)
                  refine wpAnyH_ready (rs := [8]) (by kernel_rfl) (by simp) ?_
                  refine AllReadyH.cons rfl (fun K hK => ?_) AllReadyH.nil
                  go_simp
                  refine hK.out _ _ (HK.out _ (Below.setCell (Below.setCell hFW hgA _) hgA _)) (fun hHeld => ?_)
                  clear hK K
                  (try simp only [Act.put, List.getElem_toArray, List.getElem_cons_zero, List.getElem_cons_succ, List.setIfInBounds_toArray, List.set_cons_zero, List.set_cons_succ])
                  refine wpAnyH_ready (rs := [9]) (by kernel_rfl) (by simp) ?_
                  refine AllReadyH.cons rfl (fun K hK => ?_) AllReadyH.nil
                  go_simp
                  refine hK.out _ _ (HK.out _ (Below.setCell (Below.setCell (Below.setCell (Below.setCell hFW hgA _) hgA _) hgB _) hgB _)) (fun hHeld => ?_)
                  clear hK K
                  (try simp only [Act.put, List.getElem_toArray, List.getElem_cons_zero, List.getElem_cons_succ, List.setIfInBounds_toArray, List.set_cons_zero, List.set_cons_succ])
                  refine wpAnyH_done (by kernel_rfl) ?_ _
                  have HF := Lib.hid hHeld.1
                  clear hHeld a0 a1 b0 b1 fa0 fa1 fb0 fb1 hab hba
                  go_wp2_with fail
                  go_meet
                  case rel => exact ⟨_, _, rfl, rfl, (heap4 hne hFA hFB).1, (heap4 hne hFA hFB).2, HF.out⟩
              · refine AllReadyH.cons rfl (fun K hK => ?_) ?_
                · skip
                  go_simp
                  refine hK.out _ _ (HK.out _ (by first | exact (Below.alloc (HE1.out) (by first | omega | (simp; done) | (simp; omega)) _) | exact ((Below.alloc (HE1.out) (by first | omega | (simp; done) | (simp; omega)) _)).drew)) (fun hHeld => ?_)
                  clear hK K
                  (try simp only [Act.put, List.getElem_toArray, List.getElem_cons_zero, List.getElem_cons_succ, List.setIfInBounds_toArray, List.set_cons_zero, List.set_cons_succ])
                  refine wpAnyH_ready (rs := [5, 7]) (by kernel_rfl) (by simp) ?_
                  refine AllReadyH.cons rfl (fun K hK => ?_) ?_
                  · skip
                    go_simp
                    refine (HBB.out _ lp2 _ (HT7.out.below hHeld.1 (Nat.le_refl _))).mono ?_
                    rintro e wx2 ⟨rfl, hbx⟩
                    have hA2 : wx2.heap[wx1.heap.size]? = some (.cells #[.int .i64 0, .int .i64 0] 38 (0, 0)) := below_some hbx _ _ (heap_alloc_new wx1 _)
                    have HE2 := Lib.hid (Below.onto hbx hHeld.1)
                    have he2 := HE2.out.size
                    have hz2 := hbx.size
                    (try simp at hz2)
                    refine hK.out _ _ (HK.out _ HE2.out) (fun hHeld => ?_)
                    clear hK K hbx
                    (try simp only [Act.put, List.getElem_toArray, List.getElem_cons_zero, List.getElem_cons_succ, List.setIfInBounds_toArray, List.set_cons_zero, List.set_cons_succ])
                    refine wpAnyH_ready (rs := [7]) (by kernel_rfl) (by simp) ?_
                    refine AllReadyH.cons rfl (fun K hK => ?_) AllReadyH.nil
                    go_simp
                    refine hK.out _ _ (HK.out _ (by first | exact (Below.alloc (HE2.out) (by first | omega | (simp; done) | (simp; omega)) _) | exact ((Below.alloc (HE2.out) (by first | omega | (simp; done) | (simp; omega)) _)).drew)) (fun hHeld => ?_)
                    clear hK K
                    (try simp only [Act.put, List.getElem_toArray, List.getElem_cons_zero, List.getElem_cons_succ, List.setIfInBounds_toArray, List.set_cons_zero, List.set_cons_succ])
                    have hFA : (wx2.alloc (.cells #[.int .i64 0, .int .i64 0] 38)).heap[wx1.heap.size]? = some (.cells #[.int .i64 0, .int .i64 0] 38 (0, 0)) := old_some (hA2)
                    have hFB : (wx2.alloc (.cells #[.int .i64 0, .int .i64 0] 38)).heap[wx2.heap.size]? = some (.cells #[.int .i64 0, .int .i64 0] 38 (0, 0)) := heap_alloc_new wx2 _
                    have hFW : Below x7.heap.size x7 (wx2.alloc (.cells #[.int .i64 0, .int .i64 0] 38)) := hHeld.1
                    have hne : wx1.heap.size ≠ wx2.heap.size := by omega
                    have hgA : x7.heap.size ≤ wx1.heap.size := by omega
                    have hgB : x7.heap.size ≤ wx2.heap.size := by omega
                    generalize (wx2.alloc (.cells #[.int .i64 0, .int .i64 0] 38)) = W9 at *
                    skip
                    skip
                    have a0 := cell_of_row W9 (wx1.heap.size) 0 _ _ (0, 0) hFA
                    have a1 := cell_of_row W9 (wx1.heap.size) 1 _ _ (0, 0) hFA
                    have b0 := cell_of_row W9 (wx2.heap.size) 0 _ _ (0, 0) hFB
                    have b1 := cell_of_row W9 (wx2.heap.size) 1 _ _ (0, 0) hFB
                    have fa0 := frozen_of_row W9 (wx1.heap.size) 0 _ _ hFA
                    have fa1 := frozen_of_row W9 (wx1.heap.size) 1 _ _ hFA
                    have fb0 := frozen_of_row W9 (wx2.heap.size) 0 _ _ hFB
                    have fb1 := frozen_of_row W9 (wx2.heap.size) 1 _ _ hFB
                    have hab : (wx1.heap.size = wx2.heap.size) = False := eq_false hne
                    have hba : (wx2.heap.size = wx1.heap.size) = False := eq_false (Ne.symm hne)
                    refine wpAnyH_ready (rs := [8]) (by kernel_rfl) (by simp) ?_
                    refine AllReadyH.cons rfl (fun K hK => ?_) AllReadyH.nil
                    go_simp
                    refine hK.out _ _ (HK.out _ (Below.setCell (Below.setCell hFW hgA _) hgA _)) (fun hHeld => ?_)
                    clear hK K
                    (try simp only [Act.put, List.getElem_toArray, List.getElem_cons_zero, List.getElem_cons_succ, List.setIfInBounds_toArray, List.set_cons_zero, List.set_cons_succ])
                    refine wpAnyH_ready (rs := [9]) (by kernel_rfl) (by simp) ?_
                    refine AllReadyH.cons rfl (fun K hK => ?_) AllReadyH.nil
                    go_simp
                    refine hK.out _ _ (HK.out _ (Below.setCell (Below.setCell (Below.setCell (Below.setCell hFW hgA _) hgA _) hgB _) hgB _)) (fun hHeld => ?_)
                    clear hK K
                    (try simp only [Act.put, List.getElem_toArray, List.getElem_cons_zero, List.getElem_cons_succ, List.setIfInBounds_toArray, List.set_cons_zero, List.set_cons_succ])
                    refine wpAnyH_done (by kernel_rfl) ?_ _
                    have HF := Lib.hid hHeld.1
                    clear hHeld a0 a1 b0 b1 fa0 fa1 fb0 fb1 hab hba
                    go_wp2_with fail
                    go_meet
                    case rel => exact ⟨_, _, rfl, rfl, (heap4 hne hFA hFB).1, (heap4 hne hFA hFB).2, HF.out⟩
                  · refine AllReadyH.cons rfl (fun K hK => ?_) AllReadyH.nil
                    go_simp
                    refine hK.out _ _ (HK.out _ (by first | exact (Below.alloc ((Below.alloc (HE1.out) (by first | omega | (simp; done) | (simp; omega)) _)) (by first | omega | (simp; done) | (simp; omega)) _) | exact ((Below.alloc ((Below.alloc (HE1.out) (by first | omega | (simp; done) | (simp; omega)) _)) (by first | omega | (simp; done) | (simp; omega)) _)).drew)) (fun hHeld => ?_)
                    clear hK K
                    (try simp only [Act.put, List.getElem_toArray, List.getElem_cons_zero, List.getElem_cons_succ, List.setIfInBounds_toArray, List.set_cons_zero, List.set_cons_succ])
                    refine wpAnyH_ready (rs := [5]) (by kernel_rfl) (by simp) ?_
                    refine AllReadyH.cons rfl (fun K hK => ?_) AllReadyH.nil
                    go_simp
                    refine (HBB.out _ lp2 _ (HT7.out.below hHeld.1 (Nat.le_refl _))).mono ?_
                    rintro e wx2 ⟨rfl, hbx⟩
                    have hA2 : wx2.heap[wx1.heap.size]? = some (.cells #[.int .i64 0, .int .i64 0] 38 (0, 0)) := below_some hbx _ _ (old_some (heap_alloc_new wx1 _))
                    have hB2 : wx2.heap[wx1.heap.size + 1]? = some (.cells #[.int .i64 0, .int .i64 0] 38 (0, 0)) := below_some hbx _ _ (heap_alloc2_new wx1 _ _)
                    have HE2 := Lib.hid (Below.onto hbx hHeld.1)
                    have he2 := HE2.out.size
                    have hz2 := hbx.size
                    (try simp at hz2)
                    refine hK.out _ _ (HK.out _ HE2.out) (fun hHeld => ?_)
                    clear hK K hbx
                    (try simp only [Act.put, List.getElem_toArray, List.getElem_cons_zero, List.getElem_cons_succ, List.setIfInBounds_toArray, List.set_cons_zero, List.set_cons_succ])
                    have hFA : wx2.heap[wx1.heap.size]? = some (.cells #[.int .i64 0, .int .i64 0] 38 (0, 0)) := hA2
                    have hFB : wx2.heap[wx1.heap.size + 1]? = some (.cells #[.int .i64 0, .int .i64 0] 38 (0, 0)) := hB2
                    have hFW : Below x7.heap.size x7 wx2 := hHeld.1
                    have hne : wx1.heap.size ≠ wx1.heap.size + 1 := by omega
                    have hgA : x7.heap.size ≤ wx1.heap.size := by omega
                    have hgB : x7.heap.size ≤ wx1.heap.size + 1 := by omega
                    generalize wx2 = W9 at *
                    skip
                    skip
                    have a0 := cell_of_row W9 (wx1.heap.size) 0 _ _ (0, 0) hFA
                    have a1 := cell_of_row W9 (wx1.heap.size) 1 _ _ (0, 0) hFA
                    have b0 := cell_of_row W9 (wx1.heap.size + 1) 0 _ _ (0, 0) hFB
                    have b1 := cell_of_row W9 (wx1.heap.size + 1) 1 _ _ (0, 0) hFB
                    have fa0 := frozen_of_row W9 (wx1.heap.size) 0 _ _ hFA
                    have fa1 := frozen_of_row W9 (wx1.heap.size) 1 _ _ hFA
                    have fb0 := frozen_of_row W9 (wx1.heap.size + 1) 0 _ _ hFB
                    have fb1 := frozen_of_row W9 (wx1.heap.size + 1) 1 _ _ hFB
                    have hab : (wx1.heap.size = wx1.heap.size + 1) = False := eq_false hne
                    have hba : (wx1.heap.size + 1 = wx1.heap.size) = False := eq_false (Ne.symm hne)
                    refine wpAnyH_ready (rs := [8]) (by kernel_rfl) (by simp) ?_
                    refine AllReadyH.cons rfl (fun K hK => ?_) AllReadyH.nil
                    go_simp
                    refine hK.out _ _ (HK.out _ (Below.setCell (Below.setCell hFW hgA _) hgA _)) (fun hHeld => ?_)
                    clear hK K
                    (try simp only [Act.put, List.getElem_toArray, List.getElem_cons_zero, List.getElem_cons_succ, List.setIfInBounds_toArray, List.set_cons_zero, List.set_cons_succ])
                    refine wpAnyH_ready (rs := [9]) (by kernel_rfl) (by simp) ?_
                    refine AllReadyH.cons rfl (fun K hK => ?_) AllReadyH.nil
                    go_simp
                    refine hK.out _ _ (HK.out _ (Below.setCell (Below.setCell (Below.setCell (Below.setCell hFW hgA _) hgA _) hgB _) hgB _)) (fun hHeld => ?_)
                    clear hK K
                    (try simp only [Act.put, List.getElem_toArray, List.getElem_cons_zero, List.getElem_cons_succ, List.setIfInBounds_toArray, List.set_cons_zero, List.set_cons_succ])
                    refine wpAnyH_done (by kernel_rfl) ?_ _
                    have HF := Lib.hid hHeld.1
                    clear hHeld a0 a1 b0 b1 fa0 fa1 fb0 fb1 hab hba
                    go_wp2_with fail
                    go_meet
                    case rel => exact ⟨_, _, rfl, rfl, (heap4 hne hFA hFB).1, (heap4 hne hFA hFB).2, HF.out⟩
                · refine AllReadyH.cons rfl (fun K hK => ?_) AllReadyH.nil
                  go_simp
                  refine hK.out _ _ (HK.out _ (by first | exact (Below.alloc (HE1.out) (by first | omega | (simp; done) | (simp; omega)) _) | exact ((Below.alloc (HE1.out) (by first | omega | (simp; done) | (simp; omega)) _)).drew)) (fun hHeld => ?_)
                  clear hK K
                  (try simp only [Act.put, List.getElem_toArray, List.getElem_cons_zero, List.getElem_cons_succ, List.setIfInBounds_toArray, List.set_cons_zero, List.set_cons_succ])
                  refine wpAnyH_ready (rs := [5, 6]) (by kernel_rfl) (by simp) ?_
                  refine AllReadyH.cons rfl (fun K hK => ?_) ?_
                  · skip
                    go_simp
                    refine (HBB.out _ lp2 _ (HT7.out.below hHeld.1 (Nat.le_refl _))).mono ?_
                    rintro e wx2 ⟨rfl, hbx⟩
                    have hB2 : wx2.heap[wx1.heap.size]? = some (.cells #[.int .i64 0, .int .i64 0] 38 (0, 0)) := below_some hbx _ _ (heap_alloc_new wx1 _)
                    have HE2 := Lib.hid (Below.onto hbx hHeld.1)
                    have he2 := HE2.out.size
                    have hz2 := hbx.size
                    (try simp at hz2)
                    refine hK.out _ _ (HK.out _ HE2.out) (fun hHeld => ?_)
                    clear hK K hbx
                    (try simp only [Act.put, List.getElem_toArray, List.getElem_cons_zero, List.getElem_cons_succ, List.setIfInBounds_toArray, List.set_cons_zero, List.set_cons_succ])
                    refine wpAnyH_ready (rs := [6]) (by kernel_rfl) (by simp) ?_
                    refine AllReadyH.cons rfl (fun K hK => ?_) AllReadyH.nil
                    go_simp
                    refine hK.out _ _ (HK.out _ (by first | exact (Below.alloc (HE2.out) (by first | omega | (simp; done) | (simp; omega)) _) | exact ((Below.alloc (HE2.out) (by first | omega | (simp; done) | (simp; omega)) _)).drew)) (fun hHeld => ?_)
                    clear hK K
                    (try simp only [Act.put, List.getElem_toArray, List.getElem_cons_zero, List.getElem_cons_succ, List.setIfInBounds_toArray, List.set_cons_zero, List.set_cons_succ])
                    have hFA : (wx2.alloc (.cells #[.int .i64 0, .int .i64 0] 38)).heap[wx2.heap.size]? = some (.cells #[.int .i64 0, .int .i64 0] 38 (0, 0)) := heap_alloc_new wx2 _
                    have hFB : (wx2.alloc (.cells #[.int .i64 0, .int .i64 0] 38)).heap[wx1.heap.size]? = some (.cells #[.int .i64 0, .int .i64 0] 38 (0, 0)) := old_some (hB2)
                    have hFW : Below x7.heap.size x7 (wx2.alloc (.cells #[.int .i64 0, .int .i64 0] 38)) := hHeld.1
                    have hne : wx2.heap.size ≠ wx1.heap.size := by omega
                    have hgA : x7.heap.size ≤ wx2.heap.size := by omega
                    have hgB : x7.heap.size ≤ wx1.heap.size := by omega
                    generalize (wx2.alloc (.cells #[.int .i64 0, .int .i64 0] 38)) = W9 at *
                    skip
                    skip
                    have a0 := cell_of_row W9 (wx2.heap.size) 0 _ _ (0, 0) hFA
                    have a1 := cell_of_row W9 (wx2.heap.size) 1 _ _ (0, 0) hFA
                    have b0 := cell_of_row W9 (wx1.heap.size) 0 _ _ (0, 0) hFB
                    have b1 := cell_of_row W9 (wx1.heap.size) 1 _ _ (0, 0) hFB
                    have fa0 := frozen_of_row W9 (wx2.heap.size) 0 _ _ hFA
                    have fa1 := frozen_of_row W9 (wx2.heap.size) 1 _ _ hFA
                    have fb0 := frozen_of_row W9 (wx1.heap.size) 0 _ _ hFB
                    have fb1 := frozen_of_row W9 (wx1.heap.size) 1 _ _ hFB
                    have hab : (wx2.heap.size = wx1.heap.size) = False := eq_false hne
                    have hba : (wx1.heap.size = wx2.heap.size) = False := eq_false (Ne.symm hne)
                    refine wpAnyH_ready (rs := [8]) (by kernel_rfl) (by simp) ?_
                    refine AllReadyH.cons rfl (fun K hK => ?_) AllReadyH.nil
                    go_simp
                    refine hK.out _ _ (HK.out _ (Below.setCell (Below.setCell hFW hgA _) hgA _)) (fun hHeld => ?_)
                    clear hK K
                    (try simp only [Act.put, List.getElem_toArray, List.getElem_cons_zero, List.getElem_cons_succ, List.setIfInBounds_toArray, List.set_cons_zero, List.set_cons_succ])
                    refine wpAnyH_ready (rs := [9]) (by kernel_rfl) (by simp) ?_
                    refine AllReadyH.cons rfl (fun K hK => ?_) AllReadyH.nil
                    go_simp
                    refine hK.out _ _ (HK.out _ (Below.setCell (Below.setCell (Below.setCell (Below.setCell hFW hgA _) hgA _) hgB _) hgB _)) (fun hHeld => ?_)
                    clear hK K
                    (try simp only [Act.put, List.getElem_toArray, List.getElem_cons_zero, List.getElem_cons_succ, List.setIfInBounds_toArray, List.set_cons_zero, List.set_cons_succ])
                    refine wpAnyH_done (by kernel_rfl) ?_ _
                    have HF := Lib.hid hHeld.1
                    clear hHeld a0 a1 b0 b1 fa0 fa1 fb0 fb1 hab hba
                    go_wp2_with fail
                    go_meet
                    case rel => exact ⟨_, _, rfl, rfl, (heap4 hne hFA hFB).1, (heap4 hne hFA hFB).2, HF.out⟩
                  · refine AllReadyH.cons rfl (fun K hK => ?_) AllReadyH.nil
                    go_simp
                    refine hK.out _ _ (HK.out _ (by first | exact (Below.alloc ((Below.alloc (HE1.out) (by first | omega | (simp; done) | (simp; omega)) _)) (by first | omega | (simp; done) | (simp; omega)) _) | exact ((Below.alloc ((Below.alloc (HE1.out) (by first | omega | (simp; done) | (simp; omega)) _)) (by first | omega | (simp; done) | (simp; omega)) _)).drew)) (fun hHeld => ?_)
                    clear hK K
                    (try simp only [Act.put, List.getElem_toArray, List.getElem_cons_zero, List.getElem_cons_succ, List.setIfInBounds_toArray, List.set_cons_zero, List.set_cons_succ])
                    refine wpAnyH_ready (rs := [5]) (by kernel_rfl) (by simp) ?_
                    refine AllReadyH.cons rfl (fun K hK => ?_) AllReadyH.nil
                    go_simp
                    refine (HBB.out _ lp2 _ (HT7.out.below hHeld.1 (Nat.le_refl _))).mono ?_
                    rintro e wx2 ⟨rfl, hbx⟩
                    have hA2 : wx2.heap[wx1.heap.size + 1]? = some (.cells #[.int .i64 0, .int .i64 0] 38 (0, 0)) := below_some hbx _ _ (heap_alloc2_new wx1 _ _)
                    have hB2 : wx2.heap[wx1.heap.size]? = some (.cells #[.int .i64 0, .int .i64 0] 38 (0, 0)) := below_some hbx _ _ (old_some (heap_alloc_new wx1 _))
                    have HE2 := Lib.hid (Below.onto hbx hHeld.1)
                    have he2 := HE2.out.size
                    have hz2 := hbx.size
                    (try simp at hz2)
                    refine hK.out _ _ (HK.out _ HE2.out) (fun hHeld => ?_)
                    clear hK K hbx
                    (try simp only [Act.put, List.getElem_toArray, List.getElem_cons_zero, List.getElem_cons_succ, List.setIfInBounds_toArray, List.set_cons_zero, List.set_cons_succ])
                    have hFA : wx2.heap[wx1.heap.size + 1]? = some (.cells #[.int .i64 0, .int .i64 0] 38 (0, 0)) := hA2
                    have hFB : wx2.heap[wx1.heap.size]? = some (.cells #[.int .i64 0, .int .i64 0] 38 (0, 0)) := hB2
                    have hFW : Below x7.heap.size x7 wx2 := hHeld.1
                    have hne : wx1.heap.size + 1 ≠ wx1.heap.size := by omega
                    have hgA : x7.heap.size ≤ wx1.heap.size + 1 := by omega
                    have hgB : x7.heap.size ≤ wx1.heap.size := by omega
                    generalize wx2 = W9 at *
                    skip
                    skip
                    have a0 := cell_of_row W9 (wx1.heap.size + 1) 0 _ _ (0, 0) hFA
                    have a1 := cell_of_row W9 (wx1.heap.size + 1) 1 _ _ (0, 0) hFA
                    have b0 := cell_of_row W9 (wx1.heap.size) 0 _ _ (0, 0) hFB
                    have b1 := cell_of_row W9 (wx1.heap.size) 1 _ _ (0, 0) hFB
                    have fa0 := frozen_of_row W9 (wx1.heap.size + 1) 0 _ _ hFA
                    have fa1 := frozen_of_row W9 (wx1.heap.size + 1) 1 _ _ hFA
                    have fb0 := frozen_of_row W9 (wx1.heap.size) 0 _ _ hFB
                    have fb1 := frozen_of_row W9 (wx1.heap.size) 1 _ _ hFB
                    have hab : (wx1.heap.size + 1 = wx1.heap.size) = False := eq_false hne
                    have hba : (wx1.heap.size = wx1.heap.size + 1) = False := eq_false (Ne.symm hne)
                    refine wpAnyH_ready (rs := [8]) (by kernel_rfl) (by simp) ?_
                    refine AllReadyH.cons rfl (fun K hK => ?_) AllReadyH.nil
                    go_simp
                    refine hK.out _ _ (HK.out _ (Below.setCell (Below.setCell hFW hgA _) hgA _)) (fun hHeld => ?_)
                    clear hK K
                    (try simp only [Act.put, List.getElem_toArray, List.getElem_cons_zero, List.getElem_cons_succ, List.setIfInBounds_toArray, List.set_cons_zero, List.set_cons_succ])
                    refine wpAnyH_ready (rs := [9]) (by kernel_rfl) (by simp) ?_
                    refine AllReadyH.cons rfl (fun K hK => ?_) AllReadyH.nil
                    go_simp
                    refine hK.out _ _ (HK.out _ (Below.setCell (Below.setCell (Below.setCell (Below.setCell hFW hgA _) hgA _) hgB _) hgB _)) (fun hHeld => ?_)
                    clear hK K
                    (try simp only [Act.put, List.getElem_toArray, List.getElem_cons_zero, List.getElem_cons_succ, List.setIfInBounds_toArray, List.set_cons_zero, List.set_cons_succ])
                    refine wpAnyH_done (by kernel_rfl) ?_ _
                    have HF := Lib.hid hHeld.1
                    clear hHeld a0 a1 b0 b1 fa0 fa1 fb0 fb1 hab hba
                    go_wp2_with fail
                    go_meet
                    case rel => exact ⟨_, _, rfl, rfl, (heap4 hne hFA hFB).1, (heap4 hne hFA hFB).2, HF.out⟩
            · refine AllReadyH.cons rfl (fun K hK => ?_) ?_
              · skip
                go_simp
                refine hK.out _ _ (HK.out _ (by first | exact (Below.alloc (Below.refl x7.heap.size x7) (by first | omega | (simp; done) | (simp; omega)) _) | exact ((Below.alloc (Below.refl x7.heap.size x7) (by first | omega | (simp; done) | (simp; omega)) _)).drew)) (fun hHeld => ?_)
                clear hK K
                (try simp only [Act.put, List.getElem_toArray, List.getElem_cons_zero, List.getElem_cons_succ, List.setIfInBounds_toArray, List.set_cons_zero, List.set_cons_succ])
                refine wpAnyH_ready (rs := [2, 7]) (by kernel_rfl) (by simp) ?_
                refine AllReadyH.cons rfl (fun K hK => ?_) ?_
                · skip
                  go_simp
                  refine (HBA.out _ lp1 _ (HS7.out.below hHeld.1 (Nat.le_refl _))).mono ?_
                  rintro e wx1 ⟨rfl, hbx⟩
                  have hA1 : wx1.heap[x7.heap.size]? = some (.cells #[.int .i64 0, .int .i64 0] 38 (0, 0)) := below_some hbx _ _ (heap_alloc_new x7 _)
                  have HE1 := Lib.hid (Below.onto hbx hHeld.1)
                  have he1 := HE1.out.size
                  have hz1 := hbx.size
                  (try simp at hz1)
                  refine hK.out _ _ (HK.out _ HE1.out) (fun hHeld => ?_)
                  clear hK K hbx
                  (try simp only [Act.put, List.getElem_toArray, List.getElem_cons_zero, List.getElem_cons_succ, List.setIfInBounds_toArray, List.set_cons_zero, List.set_cons_succ])
                  refine wpAnyH_ready (rs := [5, 7]) (by kernel_rfl) (by simp) ?_
                  refine AllReadyH.cons rfl (fun K hK => ?_) ?_
                  · skip
                    go_simp
                    refine (HBB.out _ lp2 _ (HT7.out.below hHeld.1 (Nat.le_refl _))).mono ?_
                    rintro e wx2 ⟨rfl, hbx⟩
                    have hA2 : wx2.heap[x7.heap.size]? = some (.cells #[.int .i64 0, .int .i64 0] 38 (0, 0)) := below_some hbx _ _ (hA1)
                    have HE2 := Lib.hid (Below.onto hbx hHeld.1)
                    have he2 := HE2.out.size
                    have hz2 := hbx.size
                    (try simp at hz2)
                    refine hK.out _ _ (HK.out _ HE2.out) (fun hHeld => ?_)
                    clear hK K hbx
                    (try simp only [Act.put, List.getElem_toArray, List.getElem_cons_zero, List.getElem_cons_succ, List.setIfInBounds_toArray, List.set_cons_zero, List.set_cons_succ])
                    refine wpAnyH_ready (rs := [7]) (by kernel_rfl) (by simp) ?_
                    refine AllReadyH.cons rfl (fun K hK => ?_) AllReadyH.nil
                    go_simp
                    refine hK.out _ _ (HK.out _ (by first | exact (Below.alloc (HE2.out) (by first | omega | (simp; done) | (simp; omega)) _) | exact ((Below.alloc (HE2.out) (by first | omega | (simp; done) | (simp; omega)) _)).drew)) (fun hHeld => ?_)
                    clear hK K
                    (try simp only [Act.put, List.getElem_toArray, List.getElem_cons_zero, List.getElem_cons_succ, List.setIfInBounds_toArray, List.set_cons_zero, List.set_cons_succ])
                    have hFA : (wx2.alloc (.cells #[.int .i64 0, .int .i64 0] 38)).heap[x7.heap.size]? = some (.cells #[.int .i64 0, .int .i64 0] 38 (0, 0)) := old_some (hA2)
                    have hFB : (wx2.alloc (.cells #[.int .i64 0, .int .i64 0] 38)).heap[wx2.heap.size]? = some (.cells #[.int .i64 0, .int .i64 0] 38 (0, 0)) := heap_alloc_new wx2 _
                    have hFW : Below x7.heap.size x7 (wx2.alloc (.cells #[.int .i64 0, .int .i64 0] 38)) := hHeld.1
                    have hne : x7.heap.size ≠ wx2.heap.size := by omega
                    have hgA : x7.heap.size ≤ x7.heap.size := by omega
                    have hgB : x7.heap.size ≤ wx2.heap.size := by omega
                    generalize (wx2.alloc (.cells #[.int .i64 0, .int .i64 0] 38)) = W9 at *
                    skip
                    skip
                    have a0 := cell_of_row W9 (x7.heap.size) 0 _ _ (0, 0) hFA
                    have a1 := cell_of_row W9 (x7.heap.size) 1 _ _ (0, 0) hFA
                    have b0 := cell_of_row W9 (wx2.heap.size) 0 _ _ (0, 0) hFB
                    have b1 := cell_of_row W9 (wx2.heap.size) 1 _ _ (0, 0) hFB
                    have fa0 := frozen_of_row W9 (x7.heap.size) 0 _ _ hFA
                    have fa1 := frozen_of_row W9 (x7.heap.size) 1 _ _ hFA
                    have fb0 := frozen_of_row W9 (wx2.heap.size) 0 _ _ hFB
                    have fb1 := frozen_of_row W9 (wx2.heap.size) 1 _ _ hFB
                    have hab : (x7.heap.size = wx2.heap.size) = False := eq_false hne
                    have hba : (wx2.heap.size = x7.heap.size) = False := eq_false (Ne.symm hne)
                    refine wpAnyH_ready (rs := [8]) (by kernel_rfl) (by simp) ?_
                    refine AllReadyH.cons rfl (fun K hK => ?_) AllReadyH.nil
                    go_simp
                    refine hK.out _ _ (HK.out _ (Below.setCell (Below.setCell hFW hgA _) hgA _)) (fun hHeld => ?_)
                    clear hK K
                    (try simp only [Act.put, List.getElem_toArray, List.getElem_cons_zero, List.getElem_cons_succ, List.setIfInBounds_toArray, List.set_cons_zero, List.set_cons_succ])
                    refine wpAnyH_ready (rs := [9]) (by kernel_rfl) (by simp) ?_
                    refine AllReadyH.cons rfl (fun K hK => ?_) AllReadyH.nil
                    go_simp
                    refine hK.out _ _ (HK.out _ (Below.setCell (Below.setCell (Below.setCell (Below.setCell hFW hgA _) hgA _) hgB _) hgB _)) (fun hHeld => ?_)
                    clear hK K
                    (try simp only [Act.put, List.getElem_toArray, List.getElem_cons_zero, List.getElem_cons_succ, List.setIfInBounds_toArray, List.set_cons_zero, List.set_cons_succ])
                    refine wpAnyH_done (by kernel_rfl) ?_ _
                    have HF := Lib.hid hHeld.1
                    clear hHeld a0 a1 b0 b1 fa0 fa1 fb0 fb1 hab hba
                    go_wp2_with fail
                    go_meet
                    case rel => exact ⟨_, _, rfl, rfl, (heap4 hne hFA hFB).1, (heap4 hne hFA hFB).2, HF.out⟩
                  · refine AllReadyH.cons rfl (fun K hK => ?_) AllReadyH.nil
                    go_simp
                    refine hK.out _ _ (HK.out _ (by first | exact (Below.alloc (HE1.out) (by first | omega | (simp; done) | (simp; omega)) _) | exact ((Below.alloc (HE1.out) (by first | omega | (simp; done) | (simp; omega)) _)).drew)) (fun hHeld => ?_)
                    clear hK K
                    (try simp only [Act.put, List.getElem_toArray, List.getElem_cons_zero, List.getElem_cons_succ, List.setIfInBounds_toArray, List.set_cons_zero, List.set_cons_succ])
                    refine wpAnyH_ready (rs := [5]) (by kernel_rfl) (by simp) ?_
                    refine AllReadyH.cons rfl (fun K hK => ?_) AllReadyH.nil
                    go_simp
                    refine (HBB.out _ lp2 _ (HT7.out.below hHeld.1 (Nat.le_refl _))).mono ?_
                    rintro e wx2 ⟨rfl, hbx⟩
                    have hA2 : wx2.heap[x7.heap.size]? = some (.cells #[.int .i64 0, .int .i64 0] 38 (0, 0)) := below_some hbx _ _ (old_some (hA1))
                    have hB2 : wx2.heap[wx1.heap.size]? = some (.cells #[.int .i64 0, .int .i64 0] 38 (0, 0)) := below_some hbx _ _ (heap_alloc_new wx1 _)
                    have HE2 := Lib.hid (Below.onto hbx hHeld.1)
                    have he2 := HE2.out.size
                    have hz2 := hbx.size
                    (try simp at hz2)
                    refine hK.out _ _ (HK.out _ HE2.out) (fun hHeld => ?_)
                    clear hK K hbx
                    (try simp only [Act.put, List.getElem_toArray, List.getElem_cons_zero, List.getElem_cons_succ, List.setIfInBounds_toArray, List.set_cons_zero, List.set_cons_succ])
                    have hFA : wx2.heap[x7.heap.size]? = some (.cells #[.int .i64 0, .int .i64 0] 38 (0, 0)) := hA2
                    have hFB : wx2.heap[wx1.heap.size]? = some (.cells #[.int .i64 0, .int .i64 0] 38 (0, 0)) := hB2
                    have hFW : Below x7.heap.size x7 wx2 := hHeld.1
                    have hne : x7.heap.size ≠ wx1.heap.size := by omega
                    have hgA : x7.heap.size ≤ x7.heap.size := by omega
                    have hgB : x7.heap.size ≤ wx1.heap.size := by omega
                    generalize wx2 = W9 at *
                    skip
                    skip
                    have a0 := cell_of_row W9 (x7.heap.size) 0 _ _ (0, 0) hFA
                    have a1 := cell_of_row W9 (x7.heap.size) 1 _ _ (0, 0) hFA
                    have b0 := cell_of_row W9 (wx1.heap.size) 0 _ _ (0, 0) hFB
                    have b1 := cell_of_row W9 (wx1.heap.size) 1 _ _ (0, 0) hFB
                    have fa0 := frozen_of_row W9 (x7.heap.size) 0 _ _ hFA
                    have fa1 := frozen_of_row W9 (x7.heap.size) 1 _ _ hFA
                    have fb0 := frozen_of_row W9 (wx1.heap.size) 0 _ _ hFB
                    have fb1 := frozen_of_row W9 (wx1.heap.size) 1 _ _ hFB
                    have hab : (x7.heap.size = wx1.heap.size) = False := eq_false hne
                    have hba : (wx1.heap.size = x7.heap.size) = False := eq_false (Ne.symm hne)
                    refine wpAnyH_ready (rs := [8]) (by kernel_rfl) (by simp) ?_
                    refine AllReadyH.cons rfl (fun K hK => ?_) AllReadyH.nil
                    go_simp
                    refine hK.out _ _ (HK.out _ (Below.setCell (Below.setCell hFW hgA _) hgA _)) (fun hHeld => ?_)
                    clear hK K
                    (try simp only [Act.put, List.getElem_toArray, List.getElem_cons_zero, List.getElem_cons_succ, List.setIfInBounds_toArray, List.set_cons_zero, List.set_cons_succ])
                    refine wpAnyH_ready (rs := [9]) (by kernel_rfl) (by simp) ?_
                    refine AllReadyH.cons rfl (fun K hK => ?_) AllReadyH.nil
                    go_simp
                    refine hK.out _ _ (HK.out _ (Below.setCell (Below.setCell (Below.setCell (Below.setCell hFW hgA _) hgA _) hgB _) hgB _)) (fun hHeld => ?_)
                    clear hK K
                    (try simp only [Act.put, List.getElem_toArray, List.getElem_cons_zero, List.getElem_cons_succ, List.setIfInBounds_toArray, List.set_cons_zero, List.set_cons_succ])
                    refine wpAnyH_done (by kernel_rfl) ?_ _
                    have HF := Lib.hid hHeld.1
                    clear hHeld a0 a1 b0 b1 fa0 fa1 fb0 fb1 hab hba
                    go_wp2_with fail
                    go_meet
                    case rel => exact ⟨_, _, rfl, rfl, (heap4 hne hFA hFB).1, (heap4 hne hFA hFB).2, HF.out⟩
                · refine AllReadyH.cons rfl (fun K hK => ?_) AllReadyH.nil
                  go_simp
                  refine hK.out _ _ (HK.out _ (by first | exact (Below.alloc ((Below.alloc (Below.refl x7.heap.size x7) (by first | omega | (simp; done) | (simp; omega)) _)) (by first | omega | (simp; done) | (simp; omega)) _) | exact ((Below.alloc ((Below.alloc (Below.refl x7.heap.size x7) (by first | omega | (simp; done) | (simp; omega)) _)) (by first | omega | (simp; done) | (simp; omega)) _)).drew)) (fun hHeld => ?_)
                  clear hK K
                  (try simp only [Act.put, List.getElem_toArray, List.getElem_cons_zero, List.getElem_cons_succ, List.setIfInBounds_toArray, List.set_cons_zero, List.set_cons_succ])
                  refine wpAnyH_ready (rs := [2]) (by kernel_rfl) (by simp) ?_
                  refine AllReadyH.cons rfl (fun K hK => ?_) AllReadyH.nil
                  go_simp
                  refine (HBA.out _ lp1 _ (HS7.out.below hHeld.1 (Nat.le_refl _))).mono ?_
                  rintro e wx1 ⟨rfl, hbx⟩
                  have hA1 : wx1.heap[x7.heap.size]? = some (.cells #[.int .i64 0, .int .i64 0] 38 (0, 0)) := below_some hbx _ _ (old_some (heap_alloc_new x7 _))
                  have hB1 : wx1.heap[x7.heap.size + 1]? = some (.cells #[.int .i64 0, .int .i64 0] 38 (0, 0)) := below_some hbx _ _ (heap_alloc2_new x7 _ _)
                  have HE1 := Lib.hid (Below.onto hbx hHeld.1)
                  have he1 := HE1.out.size
                  have hz1 := hbx.size
                  (try simp at hz1)
                  refine hK.out _ _ (HK.out _ HE1.out) (fun hHeld => ?_)
                  clear hK K hbx
                  (try simp only [Act.put, List.getElem_toArray, List.getElem_cons_zero, List.getElem_cons_succ, List.setIfInBounds_toArray, List.set_cons_zero, List.set_cons_succ])
                  refine wpAnyH_ready (rs := [5]) (by kernel_rfl) (by simp) ?_
                  refine AllReadyH.cons rfl (fun K hK => ?_) AllReadyH.nil
                  go_simp
                  refine (HBB.out _ lp2 _ (HT7.out.below hHeld.1 (Nat.le_refl _))).mono ?_
                  rintro e wx2 ⟨rfl, hbx⟩
                  have hA2 : wx2.heap[x7.heap.size]? = some (.cells #[.int .i64 0, .int .i64 0] 38 (0, 0)) := below_some hbx _ _ (hA1)
                  have hB2 : wx2.heap[x7.heap.size + 1]? = some (.cells #[.int .i64 0, .int .i64 0] 38 (0, 0)) := below_some hbx _ _ (hB1)
                  have HE2 := Lib.hid (Below.onto hbx hHeld.1)
                  have he2 := HE2.out.size
                  have hz2 := hbx.size
                  (try simp at hz2)
                  refine hK.out _ _ (HK.out _ HE2.out) (fun hHeld => ?_)
                  clear hK K hbx
                  (try simp only [Act.put, List.getElem_toArray, List.getElem_cons_zero, List.getElem_cons_succ, List.setIfInBounds_toArray, List.set_cons_zero, List.set_cons_succ])
                  have hFA : wx2.heap[x7.heap.size]? = some (.cells #[.int .i64 0, .int .i64 0] 38 (0, 0)) := hA2
                  have hFB : wx2.heap[x7.heap.size + 1]? = some (.cells #[.int .i64 0, .int .i64 0] 38 (0, 0)) := hB2
                  have hFW : Below x7.heap.size x7 wx2 := hHeld.1
                  have hne : x7.heap.size ≠ x7.heap.size + 1 := by omega
                  have hgA : x7.heap.size ≤ x7.heap.size := by omega
                  have hgB : x7.heap.size ≤ x7.heap.size + 1 := by omega
                  generalize wx2 = W9 at *
                  skip
                  skip
                  have a0 := cell_of_row W9 (x7.heap.size) 0 _ _ (0, 0) hFA
                  have a1 := cell_of_row W9 (x7.heap.size) 1 _ _ (0, 0) hFA
                  have b0 := cell_of_row W9 (x7.heap.size + 1) 0 _ _ (0, 0) hFB
                  have b1 := cell_of_row W9 (x7.heap.size + 1) 1 _ _ (0, 0) hFB
                  have fa0 := frozen_of_row W9 (x7.heap.size) 0 _ _ hFA
                  have fa1 := frozen_of_row W9 (x7.heap.size) 1 _ _ hFA
                  have fb0 := frozen_of_row W9 (x7.heap.size + 1) 0 _ _ hFB
                  have fb1 := frozen_of_row W9 (x7.heap.size + 1) 1 _ _ hFB
                  have hab : (x7.heap.size = x7.heap.size + 1) = False := eq_false hne
                  have hba : (x7.heap.size + 1 = x7.heap.size) = False := eq_false (Ne.symm hne)
                  refine wpAnyH_ready (rs := [8]) (by kernel_rfl) (by simp) ?_
                  refine AllReadyH.cons rfl (fun K hK => ?_) AllReadyH.nil
                  go_simp
                  refine hK.out _ _ (HK.out _ (Below.setCell (Below.setCell hFW hgA _) hgA _)) (fun hHeld => ?_)
                  clear hK K
                  (try simp only [Act.put, List.getElem_toArray, List.getElem_cons_zero, List.getElem_cons_succ, List.setIfInBounds_toArray, List.set_cons_zero, List.set_cons_succ])
                  refine wpAnyH_ready (rs := [9]) (by kernel_rfl) (by simp) ?_
                  refine AllReadyH.cons rfl (fun K hK => ?_) AllReadyH.nil
                  go_simp
                  refine hK.out _ _ (HK.out _ (Below.setCell (Below.setCell (Below.setCell (Below.setCell hFW hgA _) hgA _) hgB _) hgB _)) (fun hHeld => ?_)
                  clear hK K
                  (try simp only [Act.put, List.getElem_toArray, List.getElem_cons_zero, List.getElem_cons_succ, List.setIfInBounds_toArray, List.set_cons_zero, List.set_cons_succ])
                  refine wpAnyH_done (by kernel_rfl) ?_ _
                  have HF := Lib.hid hHeld.1
                  clear hHeld a0 a1 b0 b1 fa0 fa1 fb0 fb1 hab hba
                  go_wp2_with fail
                  go_meet
                  case rel => exact ⟨_, _, rfl, rfl, (heap4 hne hFA hFB).1, (heap4 hne hFA hFB).2, HF.out⟩
              · refine AllReadyH.cons rfl (fun K hK => ?_) AllReadyH.nil
                go_simp
                refine hK.out _ _ (HK.out _ (by first | exact (Below.alloc (Below.refl x7.heap.size x7) (by first | omega | (simp; done) | (simp; omega)) _) | exact ((Below.alloc (Below.refl x7.heap.size x7) (by first | omega | (simp; done) | (simp; omega)) _)).drew)) (fun hHeld => ?_)
                clear hK K
                (try simp only [Act.put, List.getElem_toArray, List.getElem_cons_zero, List.getElem_cons_succ, List.setIfInBounds_toArray, List.set_cons_zero, List.set_cons_succ])
                refine wpAnyH_ready (rs := [2, 6]) (by kernel_rfl) (by simp) ?_
                refine AllReadyH.cons rfl (fun K hK => ?_) ?_
                · skip
                  go_simp
                  refine (HBA.out _ lp1 _ (HS7.out.below hHeld.1 (Nat.le_refl _))).mono ?_
                  rintro e wx1 ⟨rfl, hbx⟩
                  have hB1 : wx1.heap[x7.heap.size]? = some (.cells #[.int .i64 0, .int .i64 0] 38 (0, 0)) := below_some hbx _ _ (heap_alloc_new x7 _)
                  have HE1 := Lib.hid (Below.onto hbx hHeld.1)
                  have he1 := HE1.out.size
                  have hz1 := hbx.size
                  (try simp at hz1)
                  refine hK.out _ _ (HK.out _ HE1.out) (fun hHeld => ?_)
                  clear hK K hbx
                  (try simp only [Act.put, List.getElem_toArray, List.getElem_cons_zero, List.getElem_cons_succ, List.setIfInBounds_toArray, List.set_cons_zero, List.set_cons_succ])
                  refine wpAnyH_ready (rs := [5, 6]) (by kernel_rfl) (by simp) ?_
                  refine AllReadyH.cons rfl (fun K hK => ?_) ?_
                  · skip
                    go_simp
                    refine (HBB.out _ lp2 _ (HT7.out.below hHeld.1 (Nat.le_refl _))).mono ?_
                    rintro e wx2 ⟨rfl, hbx⟩
                    have hB2 : wx2.heap[x7.heap.size]? = some (.cells #[.int .i64 0, .int .i64 0] 38 (0, 0)) := below_some hbx _ _ (hB1)
                    have HE2 := Lib.hid (Below.onto hbx hHeld.1)
                    have he2 := HE2.out.size
                    have hz2 := hbx.size
                    (try simp at hz2)
                    refine hK.out _ _ (HK.out _ HE2.out) (fun hHeld => ?_)
                    clear hK K hbx
                    (try simp only [Act.put, List.getElem_toArray, List.getElem_cons_zero, List.getElem_cons_succ, List.setIfInBounds_toArray, List.set_cons_zero, List.set_cons_succ])
                    refine wpAnyH_ready (rs := [6]) (by kernel_rfl) (by simp) ?_
                    refine AllReadyH.cons rfl (fun K hK => ?_) AllReadyH.nil
                    go_simp
                    refine hK.out _ _ (HK.out _ (by first | exact (Below.alloc (HE2.out) (by first | omega | (simp; done) | (simp; omega)) _) | exact ((Below.alloc (HE2.out) (by first | omega | (simp; done) | (simp; omega)) _)).drew)) (fun hHeld => ?_)
                    clear hK K
                    (try simp only [Act.put, List.getElem_toArray, List.getElem_cons_zero, List.getElem_cons_succ, List.setIfInBounds_toArray, List.set_cons_zero, List.set_cons_succ])
                    have hFA : (wx2.alloc (.cells #[.int .i64 0, .int .i64 0] 38)).heap[wx2.heap.size]? = some (.cells #[.int .i64 0, .int .i64 0] 38 (0, 0)) := heap_alloc_new wx2 _
                    have hFB : (wx2.alloc (.cells #[.int .i64 0, .int .i64 0] 38)).heap[x7.heap.size]? = some (.cells #[.int .i64 0, .int .i64 0] 38 (0, 0)) := old_some (hB2)
                    have hFW : Below x7.heap.size x7 (wx2.alloc (.cells #[.int .i64 0, .int .i64 0] 38)) := hHeld.1
                    have hne : wx2.heap.size ≠ x7.heap.size := by omega
                    have hgA : x7.heap.size ≤ wx2.heap.size := by omega
                    have hgB : x7.heap.size ≤ x7.heap.size := by omega
                    generalize (wx2.alloc (.cells #[.int .i64 0, .int .i64 0] 38)) = W9 at *
                    skip
                    skip
                    have a0 := cell_of_row W9 (wx2.heap.size) 0 _ _ (0, 0) hFA
                    have a1 := cell_of_row W9 (wx2.heap.size) 1 _ _ (0, 0) hFA
                    have b0 := cell_of_row W9 (x7.heap.size) 0 _ _ (0, 0) hFB
                    have b1 := cell_of_row W9 (x7.heap.size) 1 _ _ (0, 0) hFB
                    have fa0 := frozen_of_row W9 (wx2.heap.size) 0 _ _ hFA
                    have fa1 := frozen_of_row W9 (wx2.heap.size) 1 _ _ hFA
                    have fb0 := frozen_of_row W9 (x7.heap.size) 0 _ _ hFB
                    have fb1 := frozen_of_row W9 (x7.heap.size) 1 _ _ hFB
                    have hab : (wx2.heap.size = x7.heap.size) = False := eq_false hne
                    have hba : (x7.heap.size = wx2.heap.size) = False := eq_false (Ne.symm hne)
                    refine wpAnyH_ready (rs := [8]) (by kernel_rfl) (by simp) ?_
                    refine AllReadyH.cons rfl (fun K hK => ?_) AllReadyH.nil
                    go_simp
                    refine hK.out _ _ (HK.out _ (Below.setCell (Below.setCell hFW hgA _) hgA _)) (fun hHeld => ?_)
                    clear hK K
                    (try simp only [Act.put, List.getElem_toArray, List.getElem_cons_zero, List.getElem_cons_succ, List.setIfInBounds_toArray, List.set_cons_zero, List.set_cons_succ])
                    refine wpAnyH_ready (rs := [9]) (by kernel_rfl) (by simp) ?_
                    refine AllReadyH.cons rfl (fun K hK => ?_) AllReadyH.nil
                    go_simp
                    refine hK.out _ _ (HK.out _ (Below.setCell (Below.setCell (Below.setCell (Below.setCell hFW hgA _) hgA _) hgB _) hgB _)) (fun hHeld => ?_)
                    clear hK K
                    (try simp only [Act.put, List.getElem_toArray, List.getElem_cons_zero, List.getElem_cons_succ, List.setIfInBounds_toArray, List.set_cons_zero, List.set_cons_succ])
                    refine wpAnyH_done (by kernel_rfl) ?_ _
                    have HF := Lib.hid hHeld.1
                    clear hHeld a0 a1 b0 b1 fa0 fa1 fb0 fb1 hab hba
                    go_wp2_with fail
                    go_meet
                    case rel => exact ⟨_, _, rfl, rfl, (heap4 hne hFA hFB).1, (heap4 hne hFA hFB).2, HF.out⟩
                  · refine AllReadyH.cons rfl (fun K hK => ?_) AllReadyH.nil
                    go_simp
                    refine hK.out _ _ (HK.out _ (by first | exact (Below.alloc (HE1.out) (by first | omega | (simp; done) | (simp; omega)) _) | exact ((Below.alloc (HE1.out) (by first | omega | (simp; done) | (simp; omega)) _)).drew)) (fun hHeld => ?_)
                    clear hK K
                    (try simp only [Act.put, List.getElem_toArray, List.getElem_cons_zero, List.getElem_cons_succ, List.setIfInBounds_toArray, List.set_cons_zero, List.set_cons_succ])
                    refine wpAnyH_ready (rs := [5]) (by kernel_rfl) (by simp) ?_
                    refine AllReadyH.cons rfl (fun K hK => ?_) AllReadyH.nil
                    go_simp
                    refine (HBB.out _ lp2 _ (HT7.out.below hHeld.1 (Nat.le_refl _))).mono ?_
                    rintro e wx2 ⟨rfl, hbx⟩
                    have hA2 : wx2.heap[wx1.heap.size]? = some (.cells #[.int .i64 0, .int .i64 0] 38 (0, 0)) := below_some hbx _ _ (heap_alloc_new wx1 _)
                    have hB2 : wx2.heap[x7.heap.size]? = some (.cells #[.int .i64 0, .int .i64 0] 38 (0, 0)) := below_some hbx _ _ (old_some (hB1))
                    have HE2 := Lib.hid (Below.onto hbx hHeld.1)
                    have he2 := HE2.out.size
                    have hz2 := hbx.size
                    (try simp at hz2)
                    refine hK.out _ _ (HK.out _ HE2.out) (fun hHeld => ?_)
                    clear hK K hbx
                    (try simp only [Act.put, List.getElem_toArray, List.getElem_cons_zero, List.getElem_cons_succ, List.setIfInBounds_toArray, List.set_cons_zero, List.set_cons_succ])
                    have hFA : wx2.heap[wx1.heap.size]? = some (.cells #[.int .i64 0, .int .i64 0] 38 (0, 0)) := hA2
                    have hFB : wx2.heap[x7.heap.size]? = some (.cells #[.int .i64 0, .int .i64 0] 38 (0, 0)) := hB2
                    have hFW : Below x7.heap.size x7 wx2 := hHeld.1
                    have hne : wx1.heap.size ≠ x7.heap.size := by omega
                    have hgA : x7.heap.size ≤ wx1.heap.size := by omega
                    have hgB : x7.heap.size ≤ x7.heap.size := by omega
                    generalize wx2 = W9 at *
                    skip
                    skip
                    have a0 := cell_of_row W9 (wx1.heap.size) 0 _ _ (0, 0) hFA
                    have a1 := cell_of_row W9 (wx1.heap.size) 1 _ _ (0, 0) hFA
                    have b0 := cell_of_row W9 (x7.heap.size) 0 _ _ (0, 0) hFB
                    have b1 := cell_of_row W9 (x7.heap.size) 1 _ _ (0, 0) hFB
                    have fa0 := frozen_of_row W9 (wx1.heap.size) 0 _ _ hFA
                    have fa1 := frozen_of_row W9 (wx1.heap.size) 1 _ _ hFA
                    have fb0 := frozen_of_row W9 (x7.heap.size) 0 _ _ hFB
                    have fb1 := frozen_of_row W9 (x7.heap.size) 1 _ _ hFB
                    have hab : (wx1.heap.size = x7.heap.size) = False := eq_false hne
                    have hba : (x7.heap.size = wx1.heap.size) = False := eq_false (Ne.symm hne)
                    refine wpAnyH_ready (rs := [8]) (by kernel_rfl) (by simp) ?_
                    refine AllReadyH.cons rfl (fun K hK => ?_) AllReadyH.nil
                    go_simp
                    refine hK.out _ _ (HK.out _ (Below.setCell (Below.setCell hFW hgA _) hgA _)) (fun hHeld => ?_)
                    clear hK K
                    (try simp only [Act.put, List.getElem_toArray, List.getElem_cons_zero, List.getElem_cons_succ, List.setIfInBounds_toArray, List.set_cons_zero, List.set_cons_succ])
                    refine wpAnyH_ready (rs := [9]) (by kernel_rfl) (by simp) ?_
                    refine AllReadyH.cons rfl (fun K hK => ?_) AllReadyH.nil
                    go_simp
                    refine hK.out _ _ (HK.out _ (Below.setCell (Below.setCell (Below.setCell (Below.setCell hFW hgA _) hgA _) hgB _) hgB _)) (fun hHeld => ?_)
                    clear hK K
                    (try simp only [Act.put, List.getElem_toArray, List.getElem_cons_zero, List.getElem_cons_succ, List.setIfInBounds_toArray, List.set_cons_zero, List.set_cons_succ])
                    refine wpAnyH_done (by kernel_rfl) ?_ _
                    have HF := Lib.hid hHeld.1
                    clear hHeld a0 a1 b0 b1 fa0 fa1 fb0 fb1 hab hba
                    go_wp2_with fail
                    go_meet
                    case rel => exact ⟨_, _, rfl, rfl, (heap4 hne hFA hFB).1, (heap4 hne hFA hFB).2, HF.out⟩
                · refine AllReadyH.cons rfl (fun K hK => ?_) AllReadyH.nil
                  go_simp
                  refine hK.out _ _ (HK.out _ (by first | exact (Below.alloc ((Below.alloc (Below.refl x7.heap.size x7) (by first | omega | (simp; done) | (simp; omega)) _)) (by first | omega | (simp; done) | (simp; omega)) _) | exact ((Below.alloc ((Below.alloc (Below.refl x7.heap.size x7) (by first | omega | (simp; done) | (simp; omega)) _)) (by first | omega | (simp; done) | (simp; omega)) _)).drew)) (fun hHeld => ?_)
                  clear hK K
                  (try simp only [Act.put, List.getElem_toArray, List.getElem_cons_zero, List.getElem_cons_succ, List.setIfInBounds_toArray, List.set_cons_zero, List.set_cons_succ])
                  refine wpAnyH_ready (rs := [2]) (by kernel_rfl) (by simp) ?_
                  refine AllReadyH.cons rfl (fun K hK => ?_) AllReadyH.nil
                  go_simp
                  refine (HBA.out _ lp1 _ (HS7.out.below hHeld.1 (Nat.le_refl _))).mono ?_
                  rintro e wx1 ⟨rfl, hbx⟩
                  have hA1 : wx1.heap[x7.heap.size + 1]? = some (.cells #[.int .i64 0, .int .i64 0] 38 (0, 0)) := below_some hbx _ _ (heap_alloc2_new x7 _ _)
                  have hB1 : wx1.heap[x7.heap.size]? = some (.cells #[.int .i64 0, .int .i64 0] 38 (0, 0)) := below_some hbx _ _ (old_some (heap_alloc_new x7 _))
                  have HE1 := Lib.hid (Below.onto hbx hHeld.1)
                  have he1 := HE1.out.size
                  have hz1 := hbx.size
                  (try simp at hz1)
                  refine hK.out _ _ (HK.out _ HE1.out) (fun hHeld => ?_)
                  clear hK K hbx
                  (try simp only [Act.put, List.getElem_toArray, List.getElem_cons_zero, List.getElem_cons_succ, List.setIfInBounds_toArray, List.set_cons_zero, List.set_cons_succ])
                  refine wpAnyH_ready (rs := [5]) (by kernel_rfl) (by simp) ?_
                  refine AllReadyH.cons rfl (fun K hK => ?_) AllReadyH.nil
                  go_simp
                  refine (HBB.out _ lp2 _ (HT7.out.below hHeld.1 (Nat.le_refl _))).mono ?_
                  rintro e wx2 ⟨rfl, hbx⟩
                  have hA2 : wx2.heap[x7.heap.size + 1]? = some (.cells #[.int .i64 0, .int .i64 0] 38 (0, 0)) := below_some hbx _ _ (hA1)
                  have hB2 : wx2.heap[x7.heap.size]? = some (.cells #[.int .i64 0, .int .i64 0] 38 (0, 0)) := below_some hbx _ _ (hB1)
                  have HE2 := Lib.hid (Below.onto hbx hHeld.1)
                  have he2 := HE2.out.size
                  have hz2 := hbx.size
                  (try simp at hz2)
                  refine hK.out _ _ (HK.out _ HE2.out) (fun hHeld => ?_)
                  clear hK K hbx
                  (try simp only [Act.put, List.getElem_toArray, List.getElem_cons_zero, List.getElem_cons_succ, List.setIfInBounds_toArray, List.set_cons_zero, List.set_cons_succ])
                  have hFA : wx2.heap[x7.heap.size + 1]? = some (.cells #[.int .i64 0, .int .i64 0] 38 (0, 0)) := hA2
                  have hFB : wx2.heap[x7.heap.size]? = some (.cells #[.int .i64 0, .int .i64 0] 38 (0, 0)) := hB2
                  have hFW : Below x7.heap.size x7 wx2 := hHeld.1
                  have hne : x7.heap.size + 1 ≠ x7.heap.size := by omega
                  have hgA : x7.heap.size ≤ x7.heap.size + 1 := by omega
                  have hgB : x7.heap.size ≤ x7.heap.size := by omega
                  generalize wx2 = W9 at *
                  skip
                  skip
                  have a0 := cell_of_row W9 (x7.heap.size + 1) 0 _ _ (0, 0) hFA
                  have a1 := cell_of_row W9 (x7.heap.size + 1) 1 _ _ (0, 0) hFA
                  have b0 := cell_of_row W9 (x7.heap.size) 0 _ _ (0, 0) hFB
                  have b1 := cell_of_row W9 (x7.heap.size) 1 _ _ (0, 0) hFB
                  have fa0 := frozen_of_row W9 (x7.heap.size + 1) 0 _ _ hFA
                  have fa1 := frozen_of_row W9 (x7.heap.size + 1) 1 _ _ hFA
                  have fb0 := frozen_of_row W9 (x7.heap.size) 0 _ _ hFB
                  have fb1 := frozen_of_row W9 (x7.heap.size) 1 _ _ hFB
                  have hab : (x7.heap.size + 1 = x7.heap.size) = False := eq_false hne
                  have hba : (x7.heap.size = x7.heap.size + 1) = False := eq_false (Ne.symm hne)
                  refine wpAnyH_ready (rs := [8]) (by kernel_rfl) (by simp) ?_
                  refine AllReadyH.cons rfl (fun K hK => ?_) AllReadyH.nil
                  go_simp
                  refine hK.out _ _ (HK.out _ (Below.setCell (Below.setCell hFW hgA _) hgA _)) (fun hHeld => ?_)
                  clear hK K
                  (try simp only [Act.put, List.getElem_toArray, List.getElem_cons_zero, List.getElem_cons_succ, List.setIfInBounds_toArray, List.set_cons_zero, List.set_cons_succ])
                  refine wpAnyH_ready (rs := [9]) (by kernel_rfl) (by simp) ?_
                  refine AllReadyH.cons rfl (fun K hK => ?_) AllReadyH.nil
                  go_simp
                  refine hK.out _ _ (HK.out _ (Below.setCell (Below.setCell (Below.setCell (Below.setCell hFW hgA _) hgA _) hgB _) hgB _)) (fun hHeld => ?_)
                  clear hK K
                  (try simp only [Act.put, List.getElem_toArray, List.getElem_cons_zero, List.getElem_cons_succ, List.setIfInBounds_toArray, List.set_cons_zero, List.set_cons_succ])
                  refine wpAnyH_done (by kernel_rfl) ?_ _
                  have HF := Lib.hid hHeld.1
                  clear hHeld a0 a1 b0 b1 fa0 fa1 fb0 fb1 hab hba
                  go_wp2_with fail
                  go_meet
                  case rel => exact ⟨_, _, rfl, rfl, (heap4 hne hFA hFB).1, (heap4 hne hFA hFB).2, HF.out⟩
            /- ENDTWO -/
          obtain ⟨b13, b14, rfl, rfl, hv13, hv14, hbd⟩ := hcut
          have u0 : wc.cell? ⟨b13, 0, none⟩ = some (.int .i64 p1) := cell_of_row wc b13 0 _ _ (0, 0) hv13
          have u1 : wc.cell? ⟨b13, 1, none⟩ = some (.int .i64 p2) := cell_of_row wc b13 1 _ _ (0, 0) hv13
          have v0 : wc.cell? ⟨b14, 0, none⟩ = some (.int .i64 q1) := cell_of_row wc b14 0 _ _ (0, 0) hv14
          have v1 : wc.cell? ⟨b14, 1, none⟩ = some (.int .i64 q2) := cell_of_row wc b14 1 _ _ (0, 0) hv14
          clear hv13 hv14
          have HX8 := Lib.hid (Below.onto hbd HX7.out)
          clear hbd
          have d1 : decide (p1 < q1) = false := decide_eq_false (by have := HMQ.out.1; omega)
          have d2 : decide (q2 < p2) = false := decide_eq_false (by have := HMQ.out.2; omega)
          have d3 : decide (q1 ≤ p1) = true := decide_eq_true HMQ.out.1
          have d4 : decide (p2 ≤ q2) = true := decide_eq_true HMQ.out.2
          go_wp2_with fail
          go_ret
          exact ⟨rfl, HX8.out⟩
end Go.Proofs.Ythinaifeifnefaa
