/- The walk of the law RecordTurns, place 0. -/
import Derived.Test.YtpjngnkcjccbcaaLawT
namespace Go.Proofs.Ytpjngnkcjccbcaa
set_option linter.unusedSimpArgs false
set_option linter.unusedVariables false
open Go.RowKit

set_option maxHeartbeats 2000000 in
theorem turns0c1 (d k s c wd ht m0 m1 m2 m3 e0 e1 e2 e3 x : Int) (a : Int) (w : World) (h0 : rchk ⟨d, k, s, c, wd, ht, m0, m1, m2, m3, e0, e1, e2, e3⟩ = 0) (ha : 0 ≤ a) (hb : a ≤ 255) (hi : a % 8 = 0) (hk5 : (k == 5) = false) :
    Calls Try.prog 5 #[.agg #[.int .i64 d, .int .i64 k, .int .i64 s, .int .i64 c, .int .i64 wd, .int .i64 ht, .int .i64 m0, .int .i64 m1, .int .i64 m2, .int .i64 m3, .int .i64 e0, .int .i64 e1, .int .i64 e2, .int .i64 e3], .int .u8 a, .int .i64 x] w fun e w' => e = .returned (.bool true) ∧ Below w.heap.size w w' := by
  have hk := fun w => rchk_any ⟨d, k, s, c, wd, ht, m0, m1, m2, m3, e0, e1, e2, e3⟩ w
  rw [h0] at hk
  have HK := Lib.hid hk
  have hc : ∀ w, Calls Try.prog 26 #[.agg #[.int .i64 d, .int .i64 k, .int .i64 s, .int .i64 c, .int .i64 wd, .int .i64 ht, .int .i64 x, .int .i64 m1, .int .i64 m2, .int .i64 m3, .int .i64 e0, .int .i64 e1, .int .i64 e2, .int .i64 e3]] w fun e w' => e = .returned (.int .i64 (wantM k x)) ∧ Below w.heap.size w w' := fun w => by
    have h := check_any (turnM ⟨d, k, s, c, wd, ht, m0, m1, m2, m3, e0, e1, e2, e3⟩ 0 x) w
    rw [turnM_eq ⟨d, k, s, c, wd, ht, m0, m1, m2, m3, e0, e1, e2, e3⟩ 0 x h0] at h
    exact h
  have HC := Lib.hid hc
  clear hk hc h0
  go_enter Try.func5, Try.ntmps5
  go_wp2_with (first | (go_at_call 25; refine (speaks04 _).mono ?_; rintro e wx ⟨rfl, hbx⟩; have hzx := hbx.size; obtain ⟨hcx, hfx⟩ := bcell hbx; (try simp [Nat.add_one_le_iff] at hzx); have hc0 := fun o => hcx (w.heap.size) o (by first | omega | (simp; done) | (simp; omega)); (try have hz0 : w.heap.size < wx.heap.size := (by omega))) | (go_at_call 16; refine (HK.out _).mono ?_; rintro e wx ⟨rfl, hbx⟩; have hzx := hbx.size; obtain ⟨hcx, hfx⟩ := bcell hbx; (try simp [Nat.add_one_le_iff] at hzx); have hc0 := fun o => hcx (w.heap.size) o (by first | omega | (simp; done) | (simp; omega)); (try have hz0 : w.heap.size < wx.heap.size := (by omega))) | (go_at_call 18; refine (of_any ⟨d, k, s, c, wd, ht, m0, m1, m2, m3, e0, e1, e2, e3⟩ _).mono ?_; rintro e wx ⟨rfl, hbx⟩; have hzx := hbx.size; obtain ⟨hcx, hfx⟩ := bcell hbx; (try simp [Nat.add_one_le_iff] at hzx); have hc0 := fun o => hcx (w.heap.size) o (by first | omega | (simp; done) | (simp; omega)); (try have hz0 : w.heap.size < wx.heap.size := (by omega))) | (go_at_call 26; refine (HC.out _).mono ?_; rintro e wx ⟨rfl, hbx⟩; have hzx := hbx.size; obtain ⟨hcx, hfx⟩ := bcell hbx; (try simp [Nat.add_one_le_iff] at hzx); have hc0 := fun o => hcx (w.heap.size) o (by first | omega | (simp; done) | (simp; omega)); (try have hz0 : w.heap.size < wx.heap.size := (by omega))))
  all_goals go_ret
  all_goals exact ⟨congrArg (fun b => Ending.returned (.bool b)) (by (try simp only [beq_eq_false_iff_ne, ne_eq, bne_iff_ne] at *); rw [beq_iff_eq]; unfold wantM; (repeat' split) <;> omega), by (repeat (first | exact Below.refl _ _ | (refine Below.alloc ?_ (by first | omega | (simp; done) | (simp; omega)) _) | (refine Below.on (by assumption) ?_ (by first | omega | (simp; done) | (simp; omega))) | (refine Below.grown ?_ (by assumption) (by first | omega | (simp; done) | (simp; omega)) (by intro k hk; cases hk)) | refine Below.drew ?_))⟩
set_option maxHeartbeats 2000000 in
theorem turns0c2 (d s c wd ht m0 m1 m2 m3 e0 e1 e2 e3 : Int) (a : Int) (w : World) (h0 : rchk ⟨d, 5, s, c, wd, ht, m0, m1, m2, m3, e0, e1, e2, e3⟩ = 0) (ha : 0 ≤ a) (hb : a ≤ 255) (hi : a % 8 = 0)  :
    Calls Try.prog 5 #[.agg #[.int .i64 d, .int .i64 5, .int .i64 s, .int .i64 c, .int .i64 wd, .int .i64 ht, .int .i64 m0, .int .i64 m1, .int .i64 m2, .int .i64 m3, .int .i64 e0, .int .i64 e1, .int .i64 e2, .int .i64 e3], .int .u8 a, .int .i64 0] w fun e w' => e = .returned (.bool true) ∧ Below w.heap.size w w' := by
  have hk := fun w => rchk_any ⟨d, 5, s, c, wd, ht, m0, m1, m2, m3, e0, e1, e2, e3⟩ w
  rw [h0] at hk
  have HK := Lib.hid hk
  have hc : ∀ w, Calls Try.prog 26 #[.agg #[.int .i64 d, .int .i64 5, .int .i64 s, .int .i64 c, .int .i64 wd, .int .i64 ht, .int .i64 0, .int .i64 m1, .int .i64 m2, .int .i64 m3, .int .i64 e0, .int .i64 e1, .int .i64 e2, .int .i64 e3]] w fun e w' => e = .returned (.int .i64 (wantM 5 0)) ∧ Below w.heap.size w w' := fun w => by
    have h := check_any (turnM ⟨d, 5, s, c, wd, ht, m0, m1, m2, m3, e0, e1, e2, e3⟩ 0 0) w
    rw [turnM_eq ⟨d, 5, s, c, wd, ht, m0, m1, m2, m3, e0, e1, e2, e3⟩ 0 0 h0] at h
    exact h
  have HC := Lib.hid hc
  clear hk hc h0
  go_enter Try.func5, Try.ntmps5
  go_wp2_with (first | (go_at_call 25; refine (speaks04 _).mono ?_; rintro e wx ⟨rfl, hbx⟩; have hzx := hbx.size; obtain ⟨hcx, hfx⟩ := bcell hbx; (try simp [Nat.add_one_le_iff] at hzx); have hc0 := fun o => hcx (w.heap.size) o (by first | omega | (simp; done) | (simp; omega)); (try have hz0 : w.heap.size < wx.heap.size := (by omega))) | (go_at_call 16; refine (HK.out _).mono ?_; rintro e wx ⟨rfl, hbx⟩; have hzx := hbx.size; obtain ⟨hcx, hfx⟩ := bcell hbx; (try simp [Nat.add_one_le_iff] at hzx); have hc0 := fun o => hcx (w.heap.size) o (by first | omega | (simp; done) | (simp; omega)); (try have hz0 : w.heap.size < wx.heap.size := (by omega))) | (go_at_call 18; refine (of_any ⟨d, 5, s, c, wd, ht, m0, m1, m2, m3, e0, e1, e2, e3⟩ _).mono ?_; rintro e wx ⟨rfl, hbx⟩; have hzx := hbx.size; obtain ⟨hcx, hfx⟩ := bcell hbx; (try simp [Nat.add_one_le_iff] at hzx); have hc0 := fun o => hcx (w.heap.size) o (by first | omega | (simp; done) | (simp; omega)); (try have hz0 : w.heap.size < wx.heap.size := (by omega))) | (go_at_call 26; refine (HC.out _).mono ?_; rintro e wx ⟨rfl, hbx⟩; have hzx := hbx.size; obtain ⟨hcx, hfx⟩ := bcell hbx; (try simp [Nat.add_one_le_iff] at hzx); have hc0 := fun o => hcx (w.heap.size) o (by first | omega | (simp; done) | (simp; omega)); (try have hz0 : w.heap.size < wx.heap.size := (by omega))))
  all_goals go_ret
  all_goals exact ⟨congrArg (fun b => Ending.returned (.bool b)) (by (try simp only [beq_eq_false_iff_ne, ne_eq, bne_iff_ne] at *); rw [beq_iff_eq]; unfold wantM; (repeat' split) <;> omega), by (repeat (first | exact Below.refl _ _ | (refine Below.alloc ?_ (by first | omega | (simp; done) | (simp; omega)) _) | (refine Below.on (by assumption) ?_ (by first | omega | (simp; done) | (simp; omega))) | (refine Below.grown ?_ (by assumption) (by first | omega | (simp; done) | (simp; omega)) (by intro k hk; cases hk)) | refine Below.drew ?_))⟩
set_option maxHeartbeats 2000000 in
theorem turns0c3 (d s c wd ht m0 m1 m2 m3 e0 e1 e2 e3 x : Int) (a : Int) (w : World) (h0 : rchk ⟨d, 5, s, c, wd, ht, m0, m1, m2, m3, e0, e1, e2, e3⟩ = 0) (ha : 0 ≤ a) (hb : a ≤ 255) (hi : a % 8 = 0) (hx0 : (x != 0) = true) :
    Calls Try.prog 5 #[.agg #[.int .i64 d, .int .i64 5, .int .i64 s, .int .i64 c, .int .i64 wd, .int .i64 ht, .int .i64 m0, .int .i64 m1, .int .i64 m2, .int .i64 m3, .int .i64 e0, .int .i64 e1, .int .i64 e2, .int .i64 e3], .int .u8 a, .int .i64 x] w fun e w' => e = .returned (.bool true) ∧ Below w.heap.size w w' := by
  have hk := fun w => rchk_any ⟨d, 5, s, c, wd, ht, m0, m1, m2, m3, e0, e1, e2, e3⟩ w
  rw [h0] at hk
  have HK := Lib.hid hk
  have hc : ∀ w, Calls Try.prog 26 #[.agg #[.int .i64 d, .int .i64 5, .int .i64 s, .int .i64 c, .int .i64 wd, .int .i64 ht, .int .i64 x, .int .i64 m1, .int .i64 m2, .int .i64 m3, .int .i64 e0, .int .i64 e1, .int .i64 e2, .int .i64 e3]] w fun e w' => e = .returned (.int .i64 (wantM 5 x)) ∧ Below w.heap.size w w' := fun w => by
    have h := check_any (turnM ⟨d, 5, s, c, wd, ht, m0, m1, m2, m3, e0, e1, e2, e3⟩ 0 x) w
    rw [turnM_eq ⟨d, 5, s, c, wd, ht, m0, m1, m2, m3, e0, e1, e2, e3⟩ 0 x h0] at h
    exact h
  have HC := Lib.hid hc
  clear hk hc h0
  go_enter Try.func5, Try.ntmps5
  go_wp2_with (first | (go_at_call 25; refine (speaks04 _).mono ?_; rintro e wx ⟨rfl, hbx⟩; have hzx := hbx.size; obtain ⟨hcx, hfx⟩ := bcell hbx; (try simp [Nat.add_one_le_iff] at hzx); have hc0 := fun o => hcx (w.heap.size) o (by first | omega | (simp; done) | (simp; omega)); (try have hz0 : w.heap.size < wx.heap.size := (by omega))) | (go_at_call 16; refine (HK.out _).mono ?_; rintro e wx ⟨rfl, hbx⟩; have hzx := hbx.size; obtain ⟨hcx, hfx⟩ := bcell hbx; (try simp [Nat.add_one_le_iff] at hzx); have hc0 := fun o => hcx (w.heap.size) o (by first | omega | (simp; done) | (simp; omega)); (try have hz0 : w.heap.size < wx.heap.size := (by omega))) | (go_at_call 18; refine (of_any ⟨d, 5, s, c, wd, ht, m0, m1, m2, m3, e0, e1, e2, e3⟩ _).mono ?_; rintro e wx ⟨rfl, hbx⟩; have hzx := hbx.size; obtain ⟨hcx, hfx⟩ := bcell hbx; (try simp [Nat.add_one_le_iff] at hzx); have hc0 := fun o => hcx (w.heap.size) o (by first | omega | (simp; done) | (simp; omega)); (try have hz0 : w.heap.size < wx.heap.size := (by omega))) | (go_at_call 26; refine (HC.out _).mono ?_; rintro e wx ⟨rfl, hbx⟩; have hzx := hbx.size; obtain ⟨hcx, hfx⟩ := bcell hbx; (try simp [Nat.add_one_le_iff] at hzx); have hc0 := fun o => hcx (w.heap.size) o (by first | omega | (simp; done) | (simp; omega)); (try have hz0 : w.heap.size < wx.heap.size := (by omega))))
  all_goals go_ret
  all_goals exact ⟨congrArg (fun b => Ending.returned (.bool b)) (by (try simp only [beq_eq_false_iff_ne, ne_eq, bne_iff_ne] at *); rw [beq_iff_eq]; unfold wantM; (repeat' split) <;> omega), by (repeat (first | exact Below.refl _ _ | (refine Below.alloc ?_ (by first | omega | (simp; done) | (simp; omega)) _) | (refine Below.on (by assumption) ?_ (by first | omega | (simp; done) | (simp; omega))) | (refine Below.grown ?_ (by assumption) (by first | omega | (simp; done) | (simp; omega)) (by intro k hk; cases hk)) | refine Below.drew ?_))⟩
end Go.Proofs.Ytpjngnkcjccbcaa
