/- The walk of the law TreeCounts. -/
import Derived.Test.YtpjngnkcjccbcaaLf6
import Derived.Test.YtpjngnkcjccbcaaNs
namespace Go.Proofs.Ytpjngnkcjccbcaa
set_option linter.unusedSimpArgs false
set_option linter.unusedVariables false
open Go.RowKit
set_option maxRecDepth 20000 in
set_option maxHeartbeats 2000000 in
theorem treeCounts_any (L : List Bx) (v : Value) (w : World) (h : IsBxs w v L) : Calls Try.prog 10 #[v] w fun e w' => e = .returned (.bool true) ∧ Below w.heap.size w w' := by
  obtain ⟨A, cap, rfl, hcap, hA⟩ := h
  have hv : IsBxs w (.slice A L.length cap) L := ⟨A, cap, rfl, hcap, hA⟩
  have HV := Lib.hid hv
  clear hv hA
  by_cases hl : 100 < L.length
  · have hl' : decide ((100 : Int) < (L.length : Int)) = true := by simp; omega
    go_enter Try.func10, Try.ntmps10
    go_wp2_with fail
    refine (speaks06 _).mono ?_
    rintro e w1 ⟨rfl, hb1⟩
    go_wp2_with fail
    refine (speaks06 _).mono ?_
    rintro e w2 ⟨rfl, hb2⟩
    go_wp2_with fail
    go_ret
    exact ⟨rfl, hb1.trans (hb2.mono hb1.size)⟩
  have hl' : decide ((100 : Int) < (L.length : Int)) = false := by simp; omega
  have hL1 : L.length ≤ 100 := by omega
  clear hl
  rcases chkS_cases L with hgd | hbd
  rotate_left
  · have hne : ((chkS L).2 != 0) = true := by simpa using hbd
    clear hbd
    go_enter Try.func10, Try.ntmps10
    go_wp2_with fail
    refine (speaks06 _).mono ?_
    rintro e w1 ⟨rfl, hb1⟩
    have HB1 := Lib.hid hb1
    clear hb1
    go_wp2_with fail
    refine (check06b L _ _ (HV.out.below HB1.out (Nat.le_refl _)) (by omega)).mono ?_
    rintro e w2 ⟨rfl, hb2⟩
    have HB2 := Lib.hid hb2
    clear hb2
    go_wp2_with fail
    go_ret
    exact ⟨rfl, HB1.out.trans (HB2.out.mono HB1.out.size)⟩
  obtain ⟨h0, hg⟩ := chkS_ok L (by rw [hgd])
  have hend0 := end_first hg rfl h0
  have hall := under_all hg h0
  have HG := Lib.hid hg
  have HGD := Lib.hid hgd
  have HE0 := Lib.hid hend0
  have HALL := Lib.hid hall
  clear hg hgd hend0 hall
  go_enter Try.func10, Try.ntmps10
  go_wp2_with fail
  refine (speaks06 _).mono ?_
  rintro e w1 ⟨rfl, hb1⟩
  have HB1 := Lib.hid hb1
  clear hb1
  go_wp2_with fail
  refine (check06b L _ _ (HV.out.below HB1.out (Nat.le_refl _)) (by omega)).mono ?_
  rw [HGD.out]
  rintro e w2 ⟨rfl, hb2⟩
  have HB2 := Lib.hid hb2
  clear hb2
  go_wp2_with fail
  refine (begin_good L _ _ ((HV.out.below HB1.out (Nat.le_refl _)).below HB2.out (Nat.le_refl _)) (by omega) HGD.out).mono ?_
  rintro e w3 ⟨bt, rfl, ht, hb3⟩
  have hb : Below w.heap.size w w3 := (HB1.out.trans (HB2.out.mono HB1.out.size)).trans (hb3.mono (Nat.le_trans HB1.out.size HB2.out.size))
  have HB := Lib.hid hb
  have HT := Lib.hid ht
  clear hb3 hb ht
  go_wp2_with fail
  refine (len_any bt (NS L L.length) _ HT.out).mono ?_
  rw [NS_len]
  rintro e w4 ⟨rfl, rfl⟩
  go_wp2_with fail
  go_loopw [6, 31] (fun m x wr => ∃ k : Nat, k ≤ L.length ∧ m = .int .i64 (under L L.length k) ∧ x = .int .i64 k ∧ Hid (Below w3.heap.size w3 wr)) (fun _ x _ => L.length - (intOf x).toNat)
  case atStart => exact ⟨0, by omega, by rw [under_zero]; rfl, rfl, Below.refl _ _⟩
  case round =>
    obtain ⟨k, hk, rfl, rfl, hW⟩ := hrel
    by_cases hlt : k < L.length
    · have hsucc := under_succ HG.out rfl k hlt
      have hub : under L L.length (k + 1) ≤ L.length := by unfold under; exact Nat.le_trans List.countP_le_length (by simp)
      have hubk : under L L.length k ≤ 100 := by omega
      have hch := nd_ch L k hlt
      have hen := nd_en L k hlt
      have hsz := hW.out.size
      rcases Nat.eq_zero_or_pos (kidsS L k).length with hz | hp
      · have hle := end_leaf HG.out rfl k hlt hz
        rw [hle] at hen
        rw [hz] at hsucc
        have HS := Lib.hid hsucc
        have HCH := Lib.hid hch
        have HK := Lib.hid hz
        clear hsucc hub hch hle hz
        go_wp2_with fail
        refine (tchildren bt (NS L L.length) k _ (HT.out.below hW.out (Nat.le_refl _))).mono ?_
        rw [HCH.out]
        rintro e w5 ⟨v5, rfl, ⟨A5, cap5, rfl, _, _⟩, hb5⟩
        rw [HK.out]
        have HB5 := Lib.hid hb5
        clear hb5
        go_wp2_with fail
        refine (tend bt (NS L L.length) k _ ((HT.out.below hW.out (Nat.le_refl _)).below HB5.out (Nat.le_refl _))).mono ?_
        rintro e w6 ⟨rfl, hb6⟩
        have HB6 := Lib.hid hb6
        clear hb6
        go_wp2_with fail
        go_roundw
        case rel => exact ⟨k + 1, by omega, by rw [HS.out]; go_num, by go_num, (hW.out.trans (HB5.out.mono hsz)).trans (HB6.out.mono (Nat.le_trans hsz HB5.out.size))⟩
        case measure => simp [intOf]; omega
      · obtain ⟨c, hc1, hc2, hc3⟩ := end_last HG.out rfl k hlt hp
        have hf := kids_first HG.out rfl k hlt hp
        obtain ⟨m, hm⟩ : ∃ m, (kidsS L k).length = m + 1 := ⟨(kidsS L k).length - 1, by omega⟩
        have hen2 := nd_en L c hc2
        rw [hc3] at hen2
        rw [hm] at hsucc hc1
        simp only [Nat.add_sub_cancel] at hc1
        have HS := Lib.hid hsucc
        have HCH := Lib.hid hch
        have HM := Lib.hid hm
        have HF := Lib.hid hf
        have HC1 := Lib.hid hc1
        have hmb : m + 1 ≤ 100 := by omega
        have hub2 : under L L.length k + (m + 1) ≤ 100 := by omega
        clear hsucc hub hch hm hf hc1 hc3 hp
        go_wp2_with fail
        refine (tchildren bt (NS L L.length) k _ (HT.out.below hW.out (Nat.le_refl _))).mono ?_
        rw [HCH.out]
        rintro e w5 ⟨v5, rfl, ⟨A5, cap5, rfl, hc5, hA5⟩, hb5⟩
        rw [HM.out] at hc5 hA5 ⊢
        obtain ⟨g, o, rfl, hg5, hcell⟩ := hA5 (by omega)
        have q0 := hcell 0 (by omega)
        have qm := hcell m (by omega)
        rw [HF.out] at q0
        rw [HC1.out] at qm
        simp only [Nat.add_zero] at q0
        have HB5 := Lib.hid hb5
        clear hb5 hcell hA5
        go_wp2_with fail
        refine (tend bt (NS L L.length) c _ ((HT.out.below hW.out (Nat.le_refl _)).below HB5.out (Nat.le_refl _))).mono ?_
        rintro e w6 ⟨rfl, hb6⟩
        have q6 := (hb6.cell (p := ⟨g, o, none⟩) hg5).trans q0
        have hz6 := hb6.size
        have HB6 := Lib.hid hb6
        clear hb6
        go_wp2_with fail
        refine (tend bt (NS L L.length) k _ (((HT.out.below hW.out (Nat.le_refl _)).below HB5.out (Nat.le_refl _)).below HB6.out (Nat.le_refl _))).mono ?_
        rintro e w7 ⟨rfl, hb7⟩
        have q7 := (hb7.cell (p := ⟨g, o, none⟩) (show g < _ by omega)).trans q6
        have HB7 := Lib.hid hb7
        clear hb7
        go_wp2_with fail
        go_roundw
        case rel => exact ⟨k + 1, by omega, by rw [HS.out]; go_num, by go_num, ((hW.out.trans (HB5.out.mono hsz)).trans (HB6.out.mono (Nat.le_trans hsz HB5.out.size))).trans (HB7.out.mono (Nat.le_trans (Nat.le_trans hsz HB5.out.size) HB6.out.size))⟩
        case measure => simp [intOf]; omega
    · obtain rfl : k = L.length := by omega
      have hun : ((under L L.length L.length : Nat) : Int) = (L.length : Int) - 1 := by have := HALL.out; omega
      have hen : (nodeI (NS L L.length) 0).en = (L.length : Int) := by
        have h := nd_en L 0 h0
        rw [HE0.out] at h
        exact h
      go_wp2_with fail
      refine (len_any bt (NS L L.length) _ (HT.out.below hW.out (Nat.le_refl _))).mono ?_
      rw [NS_len]
      rintro e w5 ⟨rfl, rfl⟩
      go_wp2_with fail
      refine (tend bt (NS L L.length) 0 _ (HT.out.below hW.out (Nat.le_refl _))).mono ?_
      rintro e w6 ⟨rfl, hb6⟩
      have HB6 := Lib.hid hb6
      clear hb6
      go_wp2_with fail
      refine (len_any bt (NS L L.length) _ ((HT.out.below hW.out (Nat.le_refl _)).below HB6.out (Nat.le_refl _))).mono ?_
      rw [NS_len]
      rintro e w7 ⟨rfl, rfl⟩
      go_wp2_with fail
      go_ret
      exact ⟨by simp, HB.out.trans ((hW.out.trans (HB6.out.mono hW.out.size)).mono HB.out.size)⟩
end Go.Proofs.Ytpjngnkcjccbcaa
