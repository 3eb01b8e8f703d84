/- The walk of the law WidthTells. -/
import Derived.Test.YtpjngnkcjccbcaaRec
import Derived.Test.YtpjngnkcjccbcaaWid
namespace Go.Proofs.Ytpjngnkcjccbcaa
set_option linter.unusedSimpArgs false
set_option linter.unusedVariables false
open Go.RowKit
theorem cont_eq (b : Bx) (n : Int) (h : rchk b = 0) : rcontS b n = contS b n := by
  have hw : -1 ≤ b.w := by
    have h1 : tSize b = false := by
      unfold rchk at h
      by_cases ht : tSize b = true
      · simp only [ht, if_true] at h
        repeat' split at h
        all_goals omega
      · simpa using ht
    simp [tSize] at h1
    omega
  unfold rcontS contS
  by_cases e : b.w = -1
  · rw [if_neg (by omega), if_pos e]; split <;> omega
  · rw [if_pos (by omega), if_neg e]
set_option maxHeartbeats 1000000 in
theorem widthTells_any (b : Bx) (n : Int) (w : World) : Calls Try.prog 3 #[.agg #[.int .i64 b.d, .int .i64 b.k, .int .i64 b.s, .int .i64 b.c, .int .i64 b.w, .int .i64 b.h, .int .i64 b.m0, .int .i64 b.m1, .int .i64 b.m2, .int .i64 b.m3, .int .i64 b.e0, .int .i64 b.e1, .int .i64 b.e2, .int .i64 b.e3], .int .i64 n] w fun e w' => e = .returned (.bool true) ∧ Below w.heap.size w w' := by
  by_cases h0 : rchk b = 0
  · by_cases h1 : (decide (-35184372088832 ≤ n) && decide (n ≤ 35184372088832)) = true
    · have hc := fun w => rcontent_any b n w
      rw [cont_eq b n h0] at hc
      have HC := Lib.hid hc
      have hk := fun w => rchk_any b w
      rw [h0] at hk
      have HK := Lib.hid hk
      have hs := fun w => small_any n w
      rw [h1] at hs
      have HS := Lib.hid hs
      clear hc hk hs h0 h1
      go_enter Try.func3, Try.ntmps3
      go_wp2_with (first | (go_at_call 15; refine (speaks08 _).mono ?_; rintro e wx ⟨rfl, hbx⟩; have hzx := hbx.size; obtain ⟨hcx, hfx⟩ := bcell hbx; (try simp [Nat.add_one_le_iff] at hzx); have hc0 := fun o => hcx (w.heap.size) o (by first | omega | (simp; done) | (simp; omega)); (try have hz0 : w.heap.size < wx.heap.size := (by omega))) | (go_at_call 16; refine (HK.out _).mono ?_; rintro e wx ⟨rfl, hbx⟩; have hzx := hbx.size; obtain ⟨hcx, hfx⟩ := bcell hbx; (try simp [Nat.add_one_le_iff] at hzx); have hc0 := fun o => hcx (w.heap.size) o (by first | omega | (simp; done) | (simp; omega)); (try have hz0 : w.heap.size < wx.heap.size := (by omega))) | (go_at_call 17; refine (HS.out _).mono ?_; rintro e w' ⟨rfl, rfl⟩) | (go_at_call 18; refine (of_any b _).mono ?_; rintro e wx ⟨rfl, hbx⟩; have hzx := hbx.size; obtain ⟨hcx, hfx⟩ := bcell hbx; (try simp [Nat.add_one_le_iff] at hzx); have hc0 := fun o => hcx (w.heap.size) o (by first | omega | (simp; done) | (simp; omega)); (try have hz0 : w.heap.size < wx.heap.size := (by omega))))
      (refine wp_region_grow (by kernel_rfl) (by kernel_rfl) ?_; (repeat (first | (refine wpQuiet_no (by rfl) ?_; go_simp) | (refine wpQuiet_val (by rfl) _ (by intro wq hq; have hcq := (bcell hq).1; have hc0 := fun o => hcq (w.heap.size) o (by first | omega | (simp; done) | (simp; omega)); (try have hz0 : w.heap.size < wq.heap.size := (by omega)); have hc1 := fun o => hcq (wx.heap.size) o (by first | omega | (simp; done) | (simp; omega)); (try have hz1 : wx.heap.size < wq.heap.size := (by omega)); go_simp; rfl) ?_; go_simp) | (refine wpQuiet_call (by rfl) _ _ (by intro wq hq; have hcq := (bcell hq).1; have hc0 := fun o => hcq (w.heap.size) o (by first | omega | (simp; done) | (simp; omega)); (try have hz0 : w.heap.size < wq.heap.size := (by omega)); have hc1 := fun o => hcq (wx.heap.size) o (by first | omega | (simp; done) | (simp; omega)); (try have hz1 : wx.heap.size < wq.heap.size := (by omega)); go_simp; exact ⟨rfl, rfl⟩) _ (by intro wq hq; first | (go_at_call 19; exact Calls.grow hq (content_any b n _)) | (go_at_call 20; exact Calls.grow hq (HC.out _)) | (go_at_call 21; exact Calls.grow hq (border_any b n _)) | (go_at_call 22; exact Calls.grow hq (rborder_any b n _)) | (go_at_call 23; exact Calls.grow hq (margin_any b n _)) | (go_at_call 24; exact Calls.grow hq (rmargin_any b n _))) ?_; go_simp))); refine wpQuiet_nil ?_; intro wy hbx; have hzx := hbx.size; obtain ⟨hcx, hfx⟩ := bcell hbx; have hbx' := Lies.below hbx; (try simp [Nat.add_one_le_iff] at hzx); have hc0 := fun o => hcx (w.heap.size) o (by first | omega | (simp; done) | (simp; omega)); (try have hz0 : w.heap.size < wy.heap.size := (by omega)); have hc1 := fun o => hcx (wx.heap.size) o (by first | omega | (simp; done) | (simp; omega)); (try have hz1 : wx.heap.size < wy.heap.size := (by omega)))
      go_wp2
      go_ret
      exact ⟨rfl, by (repeat (first | exact Below.refl _ _ | (refine Below.alloc ?_ (by first | omega | (simp; done) | (simp; omega)) _) | (refine Below.on (by assumption) ?_ (by first | omega | (simp; done) | (simp; omega))) | (refine Below.grown ?_ (by assumption) (by first | omega | (simp; done) | (simp; omega)) (by intro k hk; cases hk)) | refine Below.drew ?_))⟩
    · have h1' : (decide (-35184372088832 ≤ n) && decide (n ≤ 35184372088832)) = false := by simpa using h1
      have hk := fun w => rchk_any b w
      rw [h0] at hk
      have HK := Lib.hid hk
      have hs := fun w => small_any n w
      rw [h1'] at hs
      have HS := Lib.hid hs
      clear hk hs h0 h1 h1'
      go_enter Try.func3, Try.ntmps3
      go_wp2_with (first | (go_at_call 15; refine (speaks08 _).mono ?_; rintro e wx ⟨rfl, hbx⟩; have hzx := hbx.size; obtain ⟨hcx, hfx⟩ := bcell hbx; (try simp [Nat.add_one_le_iff] at hzx); have hc0 := fun o => hcx (w.heap.size) o (by first | omega | (simp; done) | (simp; omega)); (try have hz0 : w.heap.size < wx.heap.size := (by omega))) | (go_at_call 16; refine (HK.out _).mono ?_; rintro e wx ⟨rfl, hbx⟩; have hzx := hbx.size; obtain ⟨hcx, hfx⟩ := bcell hbx; (try simp [Nat.add_one_le_iff] at hzx); have hc0 := fun o => hcx (w.heap.size) o (by first | omega | (simp; done) | (simp; omega)); (try have hz0 : w.heap.size < wx.heap.size := (by omega))) | (go_at_call 17; refine (HS.out _).mono ?_; rintro e w' ⟨rfl, rfl⟩))
      go_ret
      exact ⟨rfl, by (repeat (first | exact Below.refl _ _ | (refine Below.alloc ?_ (by first | omega | (simp; done) | (simp; omega)) _) | (refine Below.on (by assumption) ?_ (by first | omega | (simp; done) | (simp; omega))) | (refine Below.grown ?_ (by assumption) (by first | omega | (simp; done) | (simp; omega)) (by intro k hk; cases hk)) | refine Below.drew ?_))⟩
  · have h0' : (rchk b != 0) = true := by simpa using h0
    clear h0
    go_enter Try.func3, Try.ntmps3
    go_wp2_with (first | (go_at_call 15; refine (speaks08 _).mono ?_; rintro e wx ⟨rfl, hbx⟩; have hzx := hbx.size; obtain ⟨hcx, hfx⟩ := bcell hbx; (try simp [Nat.add_one_le_iff] at hzx); have hc0 := fun o => hcx (w.heap.size) o (by first | omega | (simp; done) | (simp; omega)); (try have hz0 : w.heap.size < wx.heap.size := (by omega))) | (go_at_call 16; refine (rchk_any b _).mono ?_; rintro e wx ⟨rfl, hbx⟩; have hzx := hbx.size; obtain ⟨hcx, hfx⟩ := bcell hbx; (try simp [Nat.add_one_le_iff] at hzx); have hc0 := fun o => hcx (w.heap.size) o (by first | omega | (simp; done) | (simp; omega)); (try have hz0 : w.heap.size < wx.heap.size := (by omega))))
    go_ret
    exact ⟨rfl, by (repeat (first | exact Below.refl _ _ | (refine Below.alloc ?_ (by first | omega | (simp; done) | (simp; omega)) _) | (refine Below.on (by assumption) ?_ (by first | omega | (simp; done) | (simp; omega))) | (refine Below.grown ?_ (by assumption) (by first | omega | (simp; done) | (simp; omega)) (by intro k hk; cases hk)) | refine Below.drew ?_))⟩
end Go.Proofs.Ytpjngnkcjccbcaa
