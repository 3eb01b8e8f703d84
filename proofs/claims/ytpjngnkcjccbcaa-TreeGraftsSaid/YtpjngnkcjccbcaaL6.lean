/- The walks of the laws of layer 6: the example, and TreeBuilds. -/
import Derived.Test.YtpjngnkcjccbcaaBd
namespace Go.Proofs.Ytpjngnkcjccbcaa
set_option linter.unusedSimpArgs false
set_option linter.unusedVariables false
open Go.RowKit
def box3 : Bx := ⟨0, 3, 0, 0, 0, 0, 0, 0, 0, 0, 0, 0, 0, 0⟩
theorem chk_one : chkS [box3] = (-1, 0) := by
  have hb : badS [box3] 0 = 0 := by decide +kernel
  unfold chkS
  rw [if_neg (by decide), chkUp_eq, if_pos (by decide), if_neg (by rw [hb]; decide), chkUp_eq, if_neg (by decide)]
theorem en_one : (nodeI (NS [box3] 1) 0).en = 1 := by
  have h : nodeI (NS [box3] 1) 0 = nodeK [box3] 1 0 := rfl
  rw [h]
  have := endS_gt [box3] 0
  show ((min (endS [box3] 0) 1 : Nat) : Int) = 1
  omega
theorem isBxs_new (w : World) (b : Bx) : IsBxs (w.alloc (.cells #[.int .i64 b.d, .int .i64 b.k, .int .i64 b.s, .int .i64 b.c, .int .i64 b.w, .int .i64 b.h, .int .i64 b.m0, .int .i64 b.m1, .int .i64 b.m2, .int .i64 b.m3, .int .i64 b.e0, .int .i64 b.e1, .int .i64 b.e2, .int .i64 b.e3] 28)) (.slice (some ⟨w.heap.size, 0, none⟩) 1 1) [b] := by
  refine ⟨_, 1, rfl, Nat.le_refl _, fun _ => ⟨w.heap.size, 0, rfl, Bxs.of_cells fun k hk j hj => ?_⟩⟩
  have hk0 : k = 0 := by simpa using hk
  subst hk0
  simp only [Nat.zero_mul, Nat.zero_add]
  rw [cell_of_row _ _ j _ 28 (0, 0) (heap_alloc_new w _)]
  simp [bxC, at_]
set_option maxHeartbeats 1000000 in
theorem speaks06 (w : World) : Calls Try.prog 30 #[] w fun e w' => e = .returned (.bool true) ∧ Below w.heap.size w w' := by
  have hb := fun w => build_any [box3] _ _ (isBxs_new w box3) (by decide)
  have HB := Lib.hid hb
  clear hb
  go_enter Try.func30, Try.ntmps30
  go_wp2_with (first
    | (go_at_call 31; refine (HB.out w).mono ?_; rintro e w1 ⟨hb1, hk, _⟩; obtain ⟨rfl, ht⟩ := hk (by rw [chk_one]); have HB1 := Lib.hid hb1; have ht2 : TreeIs w1 (w.heap.size + 1) (NS [box3] 1) := (by simpa using ht); have HT := Lib.hid ht2; clear hb1 ht ht2 hk)
    | (go_at_call 34; refine (len_any (w.heap.size + 1) (NS [box3] 1) _ HT.out).mono ?_; rintro e w2 ⟨rfl, rfl⟩)
    | (go_at_call 38; refine (tend (w.heap.size + 1) (NS [box3] 1) 0 _ HT.out).mono ?_; rw [en_one]; rintro e w2 ⟨rfl, hb2⟩; have HB2 := Lib.hid hb2; clear hb2))
  go_ret
  exact ⟨rfl, ((Below.refl _ _).alloc (Nat.le_refl _) _).trans ((HB1.out.trans (HB2.out.mono HB1.out.size)).mono (by simp))⟩
theorem check06b (L : List Bx) (v : Value) (w : World) (h : IsBxs w v L) (hL : L.length ≤ 1000000000000) : Calls Try.prog 33 #[v] w fun e w' => e = .returned (.tuple #[.int .i64 (chkS L).1, .int .i64 (chkS L).2]) ∧ Below w.heap.size w w' := by
  obtain ⟨A, cap, rfl, _, hA⟩ := h
  rcases Nat.eq_zero_or_pos L.length with h0 | h0
  · exact check06 L 0 0 cap A w (fun hp => by omega) (fun k hk => by omega) hL
  · obtain ⟨g, o, e, hb⟩ := hA h0
    exact check06 L g o cap A w (fun _ => e) hb hL
set_option maxRecDepth 20000 in
set_option maxHeartbeats 2000000 in
theorem treeBuilds_any (L : List Bx) (v : Value) (w : World) (h : IsBxs w v L) : Calls Try.prog 8 #[v] w fun e w' => e = .returned (.bool true) ∧ Below w.heap.size w w' := by
  obtain ⟨A, cap, rfl, hcap, hA⟩ := h
  have hv : IsBxs w (.slice A L.length cap) L := ⟨A, cap, rfl, hcap, hA⟩
  have HV := Lib.hid hv
  clear hv hA
  by_cases hl : 100 < L.length
  · have hl' : decide ((100 : Int) < (L.length : Int)) = true := by simp; omega
    go_enter Try.func8, Try.ntmps8
    go_wp2_with fail
    refine (speaks06 _).mono ?_
    rintro e w1 ⟨rfl, hb1⟩
    go_wp2_with fail
    refine (speaks06 _).mono ?_
    rintro e w2 ⟨rfl, hb2⟩
    go_wp2_with fail
    go_ret
    exact ⟨rfl, hb1.trans (hb2.mono hb1.size)⟩
  · have hl' : decide ((100 : Int) < (L.length : Int)) = false := by simp; omega
    have hL1 : L.length ≤ 100 := by omega
    by_cases hc : (chkS L).2 = 0
    · have hck := chkUp_snd L 0
      have hcs : chkS L = (-1, 0) := by
        have h0 := chkS_ok L hc
        unfold chkS at hc ⊢
        rw [if_neg (by omega)] at hc ⊢
        exact hck hc
      have HCS := Lib.hid hcs
      have HC := Lib.hid hc
      clear hc hcs hck hl
      go_enter Try.func8, Try.ntmps8
      go_wp2_with fail
      refine (speaks06 _).mono ?_
      rintro e w1 ⟨rfl, hb1⟩
      have HB1 := Lib.hid hb1
      clear hb1
      go_wp2_with (first
        | (go_at_call 32; refine (ofs_any L _ _ (HV.out.below HB1.out (Nat.le_refl _)) (by omega)).mono ?_; rintro e w2 ⟨v2, rfl, hv2, hb2⟩; have HV2 := Lib.hid hv2; have HB2 := Lib.hid hb2; clear hv2 hb2)
        | (go_at_call 31; refine (build_any L v2 _ HV2.out (by omega)).mono ?_; rintro e w3 ⟨hb3, hk, _⟩; obtain ⟨rfl, ht⟩ := hk HC.out; have HB3 := Lib.hid hb3; have HT := Lib.hid ht; clear hb3 ht hk)
        | (go_at_call 33; refine (check06b L _ _ (((HV.out.below HB1.out (Nat.le_refl _)).below HB2.out (Nat.le_refl _)).below HB3.out (Nat.le_refl _)) (by omega)).mono ?_; rw [HCS.out]; rintro e w4 ⟨rfl, hb4⟩; have HT4 := Lib.hid (HT.out.below hb4 (Nat.le_refl _)); have HB4 := Lib.hid hb4; clear hb4)
        | (go_at_call 34; refine (len_any _ _ _ HT4.out).mono ?_; rw [NS_len]; rintro e w5 ⟨rfl, rfl⟩))
      go_ret
      exact ⟨by simp, ((HB1.out.trans (HB2.out.mono HB1.out.size)).trans (HB3.out.mono (Nat.le_trans HB1.out.size HB2.out.size))).trans (HB4.out.mono (Nat.le_trans HB1.out.size (Nat.le_trans HB2.out.size HB3.out.size)))⟩
    · have HC := Lib.hid hc
      have hne : ((chkS L).2 == 0) = false := by simpa using hc
      clear hc hl
      go_enter Try.func8, Try.ntmps8
      go_wp2_with fail
      refine (speaks06 _).mono ?_
      rintro e w1 ⟨rfl, hb1⟩
      have HB1 := Lib.hid hb1
      clear hb1
      go_wp2_with (first
        | (go_at_call 32; refine (ofs_any L _ _ (HV.out.below HB1.out (Nat.le_refl _)) (by omega)).mono ?_; rintro e w2 ⟨v2, rfl, hv2, hb2⟩; have HV2 := Lib.hid hv2; have HB2 := Lib.hid hb2; clear hv2 hb2)
        | (go_at_call 31; refine (build_any L v2 _ HV2.out (by omega)).mono ?_; rintro e w3 ⟨hb3, _, hk⟩; obtain rfl := hk HC.out; have HB3 := Lib.hid hb3; clear hb3 hk)
        | (go_at_call 33; refine (check06b L _ _ (((HV.out.below HB1.out (Nat.le_refl _)).below HB2.out (Nat.le_refl _)).below HB3.out (Nat.le_refl _)) (by omega)).mono ?_; rintro e w4 ⟨rfl, hb4⟩; have HB4 := Lib.hid hb4; clear hb4))
      go_ret
      exact ⟨by simp, ((HB1.out.trans (HB2.out.mono HB1.out.size)).trans (HB3.out.mono (Nat.le_trans HB1.out.size HB2.out.size))).trans (HB4.out.mono (Nat.le_trans HB1.out.size (Nat.le_trans HB2.out.size HB3.out.size)))⟩
end Go.Proofs.Ytpjngnkcjccbcaa
