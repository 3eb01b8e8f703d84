/- The walk of the law TreeFronts. -/
import Derived.Test.YtpjngnkcjccbcaaL6
import Derived.Test.YtpjngnkcjccbcaaPx
import Derived.Deep.RegionHeld3
namespace Go.Proofs.Ytpjngnkcjccbcaa
set_option linter.unusedSimpArgs false
set_option linter.unusedVariables false
open Go.RowKit
theorem IsBxs.take {w : World} {A : Option Addr} {L : List Bx} {cap : Nat} (h : IsBxs w (.slice A L.length cap) L) (n : Nat) (hn : n ≤ L.length) : IsBxs w (.slice A n cap) (L.take n) := by
  obtain ⟨A', cap', e, hc, h⟩ := h
  injection e with e1 e2 e3
  subst e1; subst e3
  have hl : (L.take n).length = n := by rw [List.length_take]; omega
  refine ⟨A, cap, by rw [hl], by omega, fun hp => ?_⟩
  rw [hl] at hp
  obtain ⟨g, o, rfl, hB⟩ := h (by omega)
  refine ⟨g, o, rfl, fun k hk => ?_⟩
  rw [hl] at hk
  rw [at_take L n k hk]
  exact hB k (by omega)
theorem Below.onto {W0 W W' : World} (h : Below W.heap.size W W') (h0 : Below W0.heap.size W0 W) : Below W0.heap.size W0 W' := h0.trans (h.mono h0.size)
/-- What Begin leaves: a tree or none. -/
theorem begin_good (L : List Bx) (v : Value) (w : World) (h : IsBxs w v L) (hL : L.length ≤ 100000000) (hg : chkS L = (-1, 0)) : Calls Try.prog 35 #[v] w fun e w' => ∃ bt, e = .returned (.pointer (some ⟨bt, 0, none⟩)) ∧ TreeIs w' bt (NS L L.length) ∧ Below w.heap.size w w' :=
  (begin_any L v w h hL).mono fun e w' ⟨hb, h1, _⟩ => by
    obtain ⟨bt, he, ht⟩ := h1 (by rw [hg])
    exact ⟨bt, he, ht, hb⟩
theorem begin_bad (L : List Bx) (v : Value) (w : World) (h : IsBxs w v L) (hL : L.length ≤ 100000000) (hg : (chkS L).2 ≠ 0) : Calls Try.prog 35 #[v] w fun e w' => e = .returned (.pointer none) ∧ Below w.heap.size w w' :=
  (begin_any L v w h hL).mono fun e w' ⟨hb, _, h2⟩ => ⟨h2 hg, hb⟩
theorem begin_some (L : List Bx) (v : Value) (w : World) (h : IsBxs w v L) (hL : L.length ≤ 100000000) : Calls Try.prog 35 #[v] w fun e w' => ∃ p, e = .returned (.pointer p) ∧ Below w.heap.size w w' :=
  (begin_any L v w h hL).mono fun e w' ⟨hb, h1, h2⟩ => by
    by_cases hg : (chkS L).2 = 0
    · obtain ⟨bt, he, _⟩ := h1 hg
      exact ⟨_, he, hb⟩
    · exact ⟨_, h2 hg, hb⟩
theorem chkS_cases (L : List Bx) : chkS L = (-1, 0) ∨ (chkS L).2 ≠ 0 := by
  by_cases hc : (chkS L).2 = 0
  · left
    have hck := chkUp_snd L 0
    have h0 := chkS_ok L hc
    unfold chkS at hc ⊢
    rw [if_neg (by omega)] at hc ⊢
    exact hck hc
  · exact .inr hc
theorem chkS_take {L : List Bx} (h : chkS L = (-1, 0)) (n : Nat) (h0 : 0 < n) (hn : n ≤ L.length) : chkS (L.take n) = (-1, 0) := by
  have hg := (chkS_ok L (by rw [h])).2
  have hl : (L.take n).length = n := by rw [List.length_take]; omega
  exact chkS_good _ (by omega) (by rw [hl]; exact good_take (good_mono hg hn))
set_option maxRecDepth 20000 in
set_option maxHeartbeats 2000000 in
theorem treeFronts_any (L : List Bx) (v : Value) (c : Int) (w : World) (h : IsBxs w v L) (hc0 : 0 ≤ c) (hc1 : c ≤ 255) : Calls Try.prog 9 #[v, .int .u8 c] w fun e w' => e = .returned (.bool true) ∧ Below w.heap.size w w' := by
  obtain ⟨A, cap, rfl, hcap, hA⟩ := h
  have hv : IsBxs w (.slice A L.length cap) L := ⟨A, cap, rfl, hcap, hA⟩
  have HV := Lib.hid hv
  clear hv hA
  by_cases hl : 100 < L.length
  · have hl' : decide ((100 : Int) < (L.length : Int)) = true := by simp; omega
    go_enter Try.func9, Try.ntmps9
    go_wp2_with fail
    refine (speaks06 _).mono ?_
    rintro e w1 ⟨rfl, hb1⟩
    go_wp2_with fail
    refine (speaks06 _).mono ?_
    rintro e w2 ⟨rfl, hb2⟩
    go_wp2_with fail
    go_ret
    exact ⟨rfl, hb1.trans (hb2.mono hb1.size)⟩
  have hl' : decide ((100 : Int) < (L.length : Int)) = false := by simp; omega
  rcases Nat.eq_zero_or_pos L.length with h0 | h0
  · rw [h0] at hl' ⊢
    go_enter Try.func9, Try.ntmps9
    go_wp2_with fail
    refine (speaks06 _).mono ?_
    rintro e w1 ⟨rfl, hb1⟩
    go_wp2_with fail
    refine (speaks06 _).mono ?_
    rintro e w2 ⟨rfl, hb2⟩
    go_wp2_with fail
    go_ret
    exact ⟨rfl, hb1.trans (hb2.mono hb1.size)⟩
  have hz' : ((L.length : Int) == 0) = false := by rw [beq_eq_false_iff_ne]; omega
  have hL1 : L.length ≤ 100 := by omega
  have hq0 : 0 ≤ c % (L.length : Int) := Int.emod_nonneg _ (by omega)
  have hq1 : c % (L.length : Int) < L.length := Int.emod_lt_of_pos _ (by omega)
  obtain ⟨q, hq⟩ := Int.eq_ofNat_of_zero_le hq0
  rw [hq] at hq1
  clear hq0
  have hqL : q < L.length := by omega
  have hqn : q + 1 ≤ L.length := by omega
  have h1p : (0 : Int) ≤ 1 + (q : Int) := by omega
  have h1t : ((1 : Int) + (q : Int)).toNat = q + 1 := by omega
  have h1q : (1 : Int) + (q : Int) ≤ (cap : Int) := by omega
  have HN : ∀ w', IsBxs w' (.slice A L.length cap) L → IsBxs w' (.slice A (q + 1) cap) (L.take (q + 1)) := fun w' h => h.take (q + 1) hqn
  have HNH := Lib.hid HN
  clear HN hl
  rcases chkS_cases L with hgd | hbd
  · have hgn := chkS_take hgd (q + 1) (by omega) hqn
    have HG := Lib.hid hgd
    have HGN := Lib.hid hgn
    clear hgd hgn
    go_enter Try.func9, Try.ntmps9
    go_wp2_with fail
    refine (speaks06 _).mono ?_
    rintro e w1 ⟨rfl, hb1⟩
    have hv1 := HV.out.below hb1 (Nat.le_refl _)
    have HV1 := Lib.hid hv1
    have HB1 := Lib.hid hb1
    clear hb1 hv1
    go_wp2_with fail
    go_region_held3 (fun w' => Below w1.heap.size w1 w') (first | exact Below.refl _ _ | exact (Below.refl _ _).drew | exact Below.onto HBx.out (by assumption)) (first
      | ((with_reducible refine (begin_good L _ _ (HV1.out.below (by assumption) (Nat.le_refl _)) (by omega) HG.out).mono ?_); rintro e wx ⟨bt, rfl, ht, hbx⟩; have HT := Lib.hid ht; have HBx := Lib.hid hbx; clear ht hbx)
      | ((with_reducible refine (begin_good (L.take (q + 1)) _ _ (HNH.out _ (HV1.out.below (by assumption) (Nat.le_refl _))) (by rw [List.length_take]; omega) HGN.out).mono ?_); rintro e wx ⟨bu, rfl, hu, hbx⟩; have HU := Lib.hid hu; have HBx := Lib.hid hbx; clear hu hbx))
    have ht2 := HT.out.below HBx.out (Nat.le_refl _)
    have hW : Below w1.heap.size w1 wx := by assumption
    have hlen : (L.take (q + 1)).length = q + 1 := by rw [List.length_take]; omega
    have hu2 := HU.out
    rw [hlen] at hu2
    have HT2 := Lib.hid ht2
    have HU2 := Lib.hid hu2
    have hWW : Below w.heap.size w wx := HB1.out.trans (hW.mono HB1.out.size)
    have HWW := Lib.hid hWW
    clear ht2 hu2 HT HU HBx hW hWW hlen
    clear HNH hq hq1
    have e1 : (1 : Int) + (q : Int) = ((q + 1 : Nat) : Int) := by omega
    rw [e1]
    clear h1q h1p h1t e1
    go_wp2_with fail
    refine (len_any bu (NS (L.take (q + 1)) (q + 1)) _ HU2.out).mono ?_
    rw [NS_len]
    rintro e w4 ⟨rfl, rfl⟩
    go_wp2_with fail
    go_loopw [45] (fun x wr => ∃ k : Nat, k ≤ q + 1 ∧ x = .int .i64 k ∧ Hid (Below wx.heap.size wx wr)) (fun x _ => q + 1 - (intOf x).toNat)
    case atStart => exact ⟨0, by omega, rfl, Below.refl _ _⟩
    case round =>
      obtain ⟨k, hk, rfl, hR⟩ := hrel
      by_cases hlt : k < q + 1
      · have f1 := front_par L (q + 1) k hlt hqn
        have f2 := front_ctx L (q + 1) k hlt hqn
        have f3 := front_en L (q + 1) k hlt hqn
        have F1 := Lib.hid f1
        have F2 := Lib.hid f2
        have F3 := Lib.hid f3
        have hmin : (min (nodeI (NS L L.length) k).en ((q : Int) + 1) != if (q : Int) + 1 < (nodeI (NS L L.length) k).en then (q : Int) + 1 else (nodeI (NS L L.length) k).en) = false := by
          rw [bne_eq_false_iff_eq]
          split <;> omega
        clear f1 f2 f3
        go_wp2_with fail
        refine (tparent bt (NS L L.length) k _ (HT2.out.below hR.out (Nat.le_refl _))).mono ?_
        rintro e w5 ⟨rfl, hb5⟩
        have HB5 := Lib.hid (Below.onto hb5 hR.out)
        clear hb5
        go_wp2_with fail
        refine (tparent bu (NS (L.take (q + 1)) (q + 1)) k _ (HU2.out.below HB5.out (Nat.le_refl _))).mono ?_
        rw [F1.out]
        rintro e w6 ⟨rfl, hb6⟩
        have HB6 := Lib.hid (Below.onto hb6 HB5.out)
        clear hb6
        go_wp2_with fail
        refine (tcontext bt (NS L L.length) k _ (HT2.out.below HB6.out (Nat.le_refl _))).mono ?_
        rintro e w7 ⟨rfl, hb7⟩
        have HB7 := Lib.hid (Below.onto hb7 HB6.out)
        clear hb7
        go_wp2_with fail
        refine (tcontext bu (NS (L.take (q + 1)) (q + 1)) k _ (HU2.out.below HB7.out (Nat.le_refl _))).mono ?_
        rw [F2.out]
        rintro e w8 ⟨rfl, hb8⟩
        have HB8 := Lib.hid (Below.onto hb8 HB7.out)
        clear hb8
        go_wp2_with fail
        refine (tend bu (NS (L.take (q + 1)) (q + 1)) k _ (HU2.out.below HB8.out (Nat.le_refl _))).mono ?_
        rw [F3.out]
        rintro e w9 ⟨rfl, hb9⟩
        have HB9 := Lib.hid (Below.onto hb9 HB8.out)
        clear hb9
        go_wp2_with fail
        refine (tend bt (NS L L.length) k _ (HT2.out.below HB9.out (Nat.le_refl _))).mono ?_
        rintro e w10 ⟨rfl, hb10⟩
        have HB10 := Lib.hid (Below.onto hb10 HB9.out)
        clear hb10
        go_wp2_with fail
        go_roundw
        case rel => exact ⟨k + 1, by omega, by go_num, HB10⟩
        case measure => simp [intOf]; omega
      · go_wp2_with fail
        go_ret
        exact ⟨rfl, HWW.out.trans (hR.out.mono HWW.out.size)⟩
  · have HBD := Lib.hid hbd
    clear hbd
    go_enter Try.func9, Try.ntmps9
    go_wp2_with fail
    refine (speaks06 _).mono ?_
    rintro e w1 ⟨rfl, hb1⟩
    have hv1 := HV.out.below hb1 (Nat.le_refl _)
    have HV1 := Lib.hid hv1
    have HB1 := Lib.hid hb1
    clear hb1 hv1
    go_wp2_with fail
    go_region_held3 (fun w' => Below w1.heap.size w1 w') (first | exact Below.refl _ _ | exact (Below.refl _ _).drew | exact Below.onto HBx.out (by assumption)) (first
      | ((with_reducible refine (begin_bad L _ _ (HV1.out.below (by assumption) (Nat.le_refl _)) (by omega) HBD.out).mono ?_); rintro e wx ⟨rfl, hbx⟩; have HBx := Lib.hid hbx; clear hbx)
      | ((with_reducible refine (begin_some (L.take (q + 1)) _ _ (HNH.out _ (HV1.out.below (by assumption) (Nat.le_refl _))) (by rw [List.length_take]; omega)).mono ?_); rintro e wx ⟨pu, rfl, hbx⟩; have HBx := Lib.hid hbx; clear hbx))
    have hW : Below w1.heap.size w1 wx := by assumption
    have hWW : Below w.heap.size w wx := HB1.out.trans (hW.mono HB1.out.size)
    go_wp2_with fail
    go_ret
    exact ⟨rfl, hWW⟩
end Go.Proofs.Ytpjngnkcjccbcaa
