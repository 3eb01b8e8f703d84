/- The walk of the law RecordKinds, kind 3. -/
import Derived.Test.YtpjngnkcjccbcaaLawK
namespace Go.Proofs.Ytpjngnkcjccbcaa
set_option linter.unusedSimpArgs false
set_option linter.unusedVariables false
open Go.RowKit
attribute [local go_sem] run_eq4

set_option maxHeartbeats 4000000 in
theorem kind3 (d k s c wd ht m0 m1 m2 m3 e0 e1 e2 e3 : Int) (a : Int) (w : World) (h0 : rchk ⟨d, k, s, c, wd, ht, m0, m1, m2, m3, e0, e1, e2, e3⟩ = 0) (ha : 0 ≤ a) (hb : a ≤ 255) (hi : a % 5 = 2) :
    Calls Try.prog 6 #[.agg #[.int .i64 d, .int .i64 k, .int .i64 s, .int .i64 c, .int .i64 wd, .int .i64 ht, .int .i64 m0, .int .i64 m1, .int .i64 m2, .int .i64 m3, .int .i64 e0, .int .i64 e1, .int .i64 e2, .int .i64 e3], .int .u8 a] w fun e w' => e = .returned (.bool true) ∧ Below w.heap.size w w' := by
  have hk := fun w => rchk_any ⟨d, k, s, c, wd, ht, m0, m1, m2, m3, e0, e1, e2, e3⟩ w
  rw [h0] at hk
  have HK := Lib.hid hk
  have hq := kinds_iff ⟨d, k, s, c, wd, ht, m0, m1, m2, m3, e0, e1, e2, e3⟩ 3 h0 (by omega)
  have HQ := Lib.hid hq
  clear hk h0 hq
  go_enter Try.func6, Try.ntmps6
  go_wp2_with (first | (go_at_call 25; refine (speaks04 _).mono ?_; rintro e wx ⟨rfl, hbx⟩; have hzx := hbx.size; obtain ⟨hcx, hfx⟩ := bcell hbx; (try simp [Nat.add_one_le_iff] at hzx); have hc0 := fun o => hcx (w.heap.size) o (by first | omega | (simp; done) | (simp; omega)); (try have hz0 : w.heap.size < wx.heap.size := (by omega))) | (go_at_call 16; refine (HK.out _).mono ?_; rintro e wx ⟨rfl, hbx⟩; have hzx := hbx.size; obtain ⟨hcx, hfx⟩ := bcell hbx; (try simp [Nat.add_one_le_iff] at hzx); have hc0 := fun o => hcx (w.heap.size) o (by first | omega | (simp; done) | (simp; omega)); (try have hz0 : w.heap.size < wx.heap.size := (by omega))) | (go_at_call 18; refine (of_any ⟨d, k, s, c, wd, ht, m0, m1, m2, m3, e0, e1, e2, e3⟩ _).mono ?_; rintro e wx ⟨rfl, hbx⟩; have hzx := hbx.size; obtain ⟨hcx, hfx⟩ := bcell hbx; (try simp [Nat.add_one_le_iff] at hzx); have hc0 := fun o => hcx (w.heap.size) o (by first | omega | (simp; done) | (simp; omega)); (try have hz0 : w.heap.size < wx.heap.size := (by omega))) | (go_at_call 26; refine (check_any ⟨_, _, _, _, _, _, _, _, _, _, _, _, _, _⟩ _).mono ?_; rintro e wx ⟨rfl, hbx⟩; have hzx := hbx.size; obtain ⟨hcx, hfx⟩ := bcell hbx; (try simp [Nat.add_one_le_iff] at hzx); have hc0 := fun o => hcx (w.heap.size) o (by first | omega | (simp; done) | (simp; omega)); (try have hz0 : w.heap.size < wx.heap.size := (by omega))))
  all_goals go_ret
  all_goals refine ⟨congrArg (fun b => Ending.returned (.bool b)) ?_, by (repeat (first | exact Below.refl _ _ | (refine Below.alloc ?_ (by first | omega | (simp; done) | (simp; omega)) _) | (refine Below.on (by assumption) ?_ (by first | omega | (simp; done) | (simp; omega))) | (refine Below.grown ?_ (by assumption) (by first | omega | (simp; done) | (simp; omega)) (by intro k hk; cases hk)) | refine Below.drew ?_))⟩
  all_goals
    have q := HQ.out
    clear HQ HK
    (try (have hh : m0 = 0 ∧ m1 = 0 ∧ m2 = 0 ∧ m3 = 0 := (by assumption); obtain ⟨rfl, rfl, rfl, rfl⟩ := hh))
    (try (have hh : c = 0 := (by assumption); subst hh))
    (try (have hh : s = 0 := (by assumption); subst hh))
    generalize rchk _ = R at q ⊢
    simp [okK] at q
    first
      | (rw [Bool.not_eq_true', beq_eq_false_iff_ne]; omega)
      | (rw [beq_iff_eq]; omega)
      | (rw [beq_iff_eq, Bool.eq_iff_iff]; simp; by_cases hr : R = 0 <;> simp [hr] at q ⊢ <;> omega)
end Go.Proofs.Ytpjngnkcjccbcaa
