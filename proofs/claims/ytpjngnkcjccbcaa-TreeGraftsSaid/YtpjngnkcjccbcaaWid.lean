/- Contracts of the layer width, and of its reference: what does not look at trees. -/
import Derived.Test.YtpjngnkcjccbcaaBx
import Derived.Lib.Hide
namespace Go.Proofs.Ytpjngnkcjccbcaa
set_option linter.unusedSimpArgs false
set_option linter.unusedVariables false
open Go.RowKit
def sideS (b : Bx) : Int := wrap64 (wrap64 (wrap64 (b.m1 + b.m3) + b.e1) + b.e3)
theorem across_any (b : Bx) (w : World) : Calls Try.prog 53 #[.agg #[.int .i64 b.d, .int .i64 b.k, .int .i64 b.s, .int .i64 b.c, .int .i64 b.w, .int .i64 b.h, .int .i64 b.m0, .int .i64 b.m1, .int .i64 b.m2, .int .i64 b.m3, .int .i64 b.e0, .int .i64 b.e1, .int .i64 b.e2, .int .i64 b.e3]] w fun e w' => e = .returned (.int .i64 (sideS b)) ∧ Below w.heap.size w w' := by
  go_enter Try.func53, Try.ntmps53
  go_wp2
  go_ret
  exact ⟨rfl, (Below.refl _ _).alloc (Nat.le_refl _) _⟩
theorem sides_any (b : Bx) (w : World) : Calls Try.prog 54 #[.agg #[.int .i64 b.d, .int .i64 b.k, .int .i64 b.s, .int .i64 b.c, .int .i64 b.w, .int .i64 b.h, .int .i64 b.m0, .int .i64 b.m1, .int .i64 b.m2, .int .i64 b.m3, .int .i64 b.e0, .int .i64 b.e1, .int .i64 b.e2, .int .i64 b.e3]] w fun e w' => e = .returned (.int .i64 (sideS b)) ∧ Below w.heap.size w w' := by
  go_enter Try.func54, Try.ntmps54
  go_wp2
  go_ret
  exact ⟨rfl, (Below.refl _ _).alloc (Nat.le_refl _) _⟩
def bordS (b : Bx) (n : Int) : Int := wrap64 (wrap64 (n + b.e1) + b.e3)
theorem border_any (b : Bx) (n : Int) (w : World) : Calls Try.prog 21 #[.agg #[.int .i64 b.d, .int .i64 b.k, .int .i64 b.s, .int .i64 b.c, .int .i64 b.w, .int .i64 b.h, .int .i64 b.m0, .int .i64 b.m1, .int .i64 b.m2, .int .i64 b.m3, .int .i64 b.e0, .int .i64 b.e1, .int .i64 b.e2, .int .i64 b.e3], .int .i64 n] w fun e w' => e = .returned (.int .i64 (bordS b n)) ∧ Below w.heap.size w w' := by
  go_enter Try.func21, Try.ntmps21
  go_wp2
  go_ret
  exact ⟨rfl, (Below.refl _ _).alloc (Nat.le_refl _) _⟩
theorem rborder_any (b : Bx) (n : Int) (w : World) : Calls Try.prog 22 #[.agg #[.int .i64 b.d, .int .i64 b.k, .int .i64 b.s, .int .i64 b.c, .int .i64 b.w, .int .i64 b.h, .int .i64 b.m0, .int .i64 b.m1, .int .i64 b.m2, .int .i64 b.m3, .int .i64 b.e0, .int .i64 b.e1, .int .i64 b.e2, .int .i64 b.e3], .int .i64 n] w fun e w' => e = .returned (.int .i64 (bordS b n)) ∧ Below w.heap.size w w' := by
  go_enter Try.func22, Try.ntmps22
  go_wp2
  go_ret
  exact ⟨rfl, (Below.refl _ _).alloc (Nat.le_refl _) _⟩
theorem margin_any (b : Bx) (n : Int) (w : World) : Calls Try.prog 23 #[.agg #[.int .i64 b.d, .int .i64 b.k, .int .i64 b.s, .int .i64 b.c, .int .i64 b.w, .int .i64 b.h, .int .i64 b.m0, .int .i64 b.m1, .int .i64 b.m2, .int .i64 b.m3, .int .i64 b.e0, .int .i64 b.e1, .int .i64 b.e2, .int .i64 b.e3], .int .i64 n] w fun e w' => e = .returned (.int .i64 (wrap64 (n + sideS b))) ∧ Below w.heap.size w w' := by
  go_enter Try.func23, Try.ntmps23
  go_wp2_with (first | (go_at_call 53; refine (across_any b _).mono ?_; rintro e w1 ⟨rfl, hb1⟩))
  go_ret
  exact ⟨rfl, ((Below.refl _ _).alloc (Nat.le_refl _) _).trans (hb1.mono (by simp))⟩
theorem rmargin_any (b : Bx) (n : Int) (w : World) : Calls Try.prog 24 #[.agg #[.int .i64 b.d, .int .i64 b.k, .int .i64 b.s, .int .i64 b.c, .int .i64 b.w, .int .i64 b.h, .int .i64 b.m0, .int .i64 b.m1, .int .i64 b.m2, .int .i64 b.m3, .int .i64 b.e0, .int .i64 b.e1, .int .i64 b.e2, .int .i64 b.e3], .int .i64 n] w fun e w' => e = .returned (.int .i64 (wrap64 (n + sideS b))) ∧ Below w.heap.size w w' := by
  go_enter Try.func24, Try.ntmps24
  go_wp2_with (first | (go_at_call 54; refine (sides_any b _).mono ?_; rintro e w1 ⟨rfl, hb1⟩))
  go_ret
  exact ⟨rfl, ((Below.refl _ _).alloc (Nat.le_refl _) _).trans (hb1.mono (by simp))⟩
def contS (b : Bx) (n : Int) : Int := if b.w = -1 then max 0 (wrap64 (n - sideS b)) else b.w
theorem content_any (b : Bx) (n : Int) (w : World) : Calls Try.prog 19 #[.agg #[.int .i64 b.d, .int .i64 b.k, .int .i64 b.s, .int .i64 b.c, .int .i64 b.w, .int .i64 b.h, .int .i64 b.m0, .int .i64 b.m1, .int .i64 b.m2, .int .i64 b.m3, .int .i64 b.e0, .int .i64 b.e1, .int .i64 b.e2, .int .i64 b.e3], .int .i64 n] w fun e w' => e = .returned (.int .i64 (contS b n)) ∧ Below w.heap.size w w' := by
  by_cases h : b.w = -1
  · have hs : contS b n = max 0 (wrap64 (n - sideS b)) := by simp [contS, h]
    rw [hs]
    have hb : (b.w != -1) = false := by simp [h]
    clear hs h
    go_enter Try.func19, Try.ntmps19
    go_wp2_with (first | (go_at_call 53; refine (across_any b _).mono ?_; rintro e w1 ⟨rfl, hb1⟩))
    all_goals go_ret
    all_goals exact ⟨ret_i (by omega), ((Below.refl _ _).alloc (Nat.le_refl _) _).trans (hb1.mono (by simp))⟩
  · have hs : contS b n = b.w := by simp [contS, h]
    rw [hs]
    have hb : (b.w != -1) = true := by simp [h]
    clear hs h
    go_enter Try.func19, Try.ntmps19
    go_wp2
    go_ret
    exact ⟨rfl, ((Below.refl _ _).alloc (Nat.le_refl _) _)⟩
def rcontS (b : Bx) (n : Int) : Int := if 0 ≤ b.w then b.w else if wrap64 (n - sideS b) < 0 then 0 else wrap64 (n - sideS b)
theorem rcontent_any (b : Bx) (n : Int) (w : World) : Calls Try.prog 20 #[.agg #[.int .i64 b.d, .int .i64 b.k, .int .i64 b.s, .int .i64 b.c, .int .i64 b.w, .int .i64 b.h, .int .i64 b.m0, .int .i64 b.m1, .int .i64 b.m2, .int .i64 b.m3, .int .i64 b.e0, .int .i64 b.e1, .int .i64 b.e2, .int .i64 b.e3], .int .i64 n] w fun e w' => e = .returned (.int .i64 (rcontS b n)) ∧ Below w.heap.size w w' := by
  by_cases h : 0 ≤ b.w
  · have hs : rcontS b n = b.w := by simp [rcontS, h]
    rw [hs]
    clear hs
    go_enter Try.func20, Try.ntmps20
    go_wp2
    go_ret
    exact ⟨rfl, ((Below.refl _ _).alloc (Nat.le_refl _) _)⟩
  · have hs : rcontS b n = if wrap64 (n - sideS b) < 0 then 0 else wrap64 (n - sideS b) := by simp [rcontS, h]
    rw [hs]
    clear hs
    by_cases h2 : wrap64 (n - sideS b) < 0
    all_goals
      go_enter Try.func20, Try.ntmps20
      go_wp2_with (first | (go_at_call 54; refine (sides_any b _).mono ?_; rintro e wx ⟨rfl, hbx⟩; have hzx := hbx.size; obtain ⟨hcx, hfx⟩ := bcell hbx; (try simp [Nat.add_one_le_iff] at hzx); have hc0 := fun o => hcx (w.heap.size) o (by first | omega | (simp; done) | (simp; omega)); (try have hz0 : w.heap.size < wx.heap.size := (by omega))))
      go_ret
      exact ⟨ret_i (by simp <;> omega), by (repeat (first | exact Below.refl _ _ | (refine Below.alloc ?_ (by first | omega | (simp; done) | (simp; omega)) _) | (refine Below.on (by assumption) ?_ (by first | omega | (simp; done) | (simp; omega))) | (refine Below.grown ?_ (by assumption) (by first | omega | (simp; done) | (simp; omega)) (by intro k hk; cases hk)) | refine Below.drew ?_))⟩
theorem small_any (n : Int) (w : World) : Calls Try.prog 17 #[.int .i64 n] w fun e w' => e = .returned (.bool (decide (-35184372088832 ≤ n) && decide (n ≤ 35184372088832))) ∧ w = w' := by
  go_enter Try.func17, Try.ntmps17
  go_wp2
  all_goals go_ret
  all_goals exact ⟨by simp <;> omega, rfl⟩
theorem of_any (b : Bx) (w : World) : Calls Try.prog 18 #[.agg #[.int .i64 b.d, .int .i64 b.k, .int .i64 b.s, .int .i64 b.c, .int .i64 b.w, .int .i64 b.h, .int .i64 b.m0, .int .i64 b.m1, .int .i64 b.m2, .int .i64 b.m3, .int .i64 b.e0, .int .i64 b.e1, .int .i64 b.e2, .int .i64 b.e3]] w fun e w' => e = .returned (.agg #[.int .i64 b.d, .int .i64 b.k, .int .i64 b.s, .int .i64 b.c, .int .i64 b.w, .int .i64 b.h, .int .i64 b.m0, .int .i64 b.m1, .int .i64 b.m2, .int .i64 b.m3, .int .i64 b.e0, .int .i64 b.e1, .int .i64 b.e2, .int .i64 b.e3]) ∧ Below w.heap.size w w' := by
  go_enter Try.func18, Try.ntmps18
  go_wp2
  exact bodyPost_ret (v := .agg #[.int .i64 b.d, .int .i64 b.k, .int .i64 b.s, .int .i64 b.c, .int .i64 b.w, .int .i64 b.h, .int .i64 b.m0, .int .i64 b.m1, .int .i64 b.m2, .int .i64 b.m3, .int .i64 b.e0, .int .i64 b.e1, .int .i64 b.e2, .int .i64 b.e3]) (by simp [results, Try.results18, go_sem]) rfl ⟨rfl, by (repeat (first | exact Below.refl _ _ | (refine Below.alloc ?_ (by first | omega | (simp; done) | (simp; omega)) _) | (refine Below.on (by assumption) ?_ (by first | omega | (simp; done) | (simp; omega))) | (refine Below.grown ?_ (by assumption) (by first | omega | (simp; done) | (simp; omega)) (by intro k hk; cases hk)) | refine Below.drew ?_))⟩
theorem speaks08 (w : World) : Calls Try.prog 15 #[] w fun e w' => e = .returned (.bool true) ∧ Below w.heap.size w w' := by
  have h1 : ∀ w, Calls Try.prog 19 #[.agg #[.int .i64 (Bx.mk 0 1 0 0 (-1) 0 0 3 0 2 0 0 0 0).d, .int .i64 (Bx.mk 0 1 0 0 (-1) 0 0 3 0 2 0 0 0 0).k, .int .i64 (Bx.mk 0 1 0 0 (-1) 0 0 3 0 2 0 0 0 0).s, .int .i64 (Bx.mk 0 1 0 0 (-1) 0 0 3 0 2 0 0 0 0).c, .int .i64 (Bx.mk 0 1 0 0 (-1) 0 0 3 0 2 0 0 0 0).w, .int .i64 (Bx.mk 0 1 0 0 (-1) 0 0 3 0 2 0 0 0 0).h, .int .i64 (Bx.mk 0 1 0 0 (-1) 0 0 3 0 2 0 0 0 0).m0, .int .i64 (Bx.mk 0 1 0 0 (-1) 0 0 3 0 2 0 0 0 0).m1, .int .i64 (Bx.mk 0 1 0 0 (-1) 0 0 3 0 2 0 0 0 0).m2, .int .i64 (Bx.mk 0 1 0 0 (-1) 0 0 3 0 2 0 0 0 0).m3, .int .i64 (Bx.mk 0 1 0 0 (-1) 0 0 3 0 2 0 0 0 0).e0, .int .i64 (Bx.mk 0 1 0 0 (-1) 0 0 3 0 2 0 0 0 0).e1, .int .i64 (Bx.mk 0 1 0 0 (-1) 0 0 3 0 2 0 0 0 0).e2, .int .i64 (Bx.mk 0 1 0 0 (-1) 0 0 3 0 2 0 0 0 0).e3], .int .i64 20] w fun e w' => e = .returned (.int .i64 15) ∧ Below w.heap.size w w' := fun w => by
    have h := content_any ⟨0, 1, 0, 0, -1, 0, 0, 3, 0, 2, 0, 0, 0, 0⟩ 20 w
    rwa [show contS ⟨0, 1, 0, 0, -1, 0, 0, 3, 0, 2, 0, 0, 0, 0⟩ 20 = 15 from by decide +kernel] at h
  have h2 : ∀ w, Calls Try.prog 23 #[.agg #[.int .i64 (Bx.mk 0 1 0 0 (-1) 0 0 3 0 2 0 0 0 0).d, .int .i64 (Bx.mk 0 1 0 0 (-1) 0 0 3 0 2 0 0 0 0).k, .int .i64 (Bx.mk 0 1 0 0 (-1) 0 0 3 0 2 0 0 0 0).s, .int .i64 (Bx.mk 0 1 0 0 (-1) 0 0 3 0 2 0 0 0 0).c, .int .i64 (Bx.mk 0 1 0 0 (-1) 0 0 3 0 2 0 0 0 0).w, .int .i64 (Bx.mk 0 1 0 0 (-1) 0 0 3 0 2 0 0 0 0).h, .int .i64 (Bx.mk 0 1 0 0 (-1) 0 0 3 0 2 0 0 0 0).m0, .int .i64 (Bx.mk 0 1 0 0 (-1) 0 0 3 0 2 0 0 0 0).m1, .int .i64 (Bx.mk 0 1 0 0 (-1) 0 0 3 0 2 0 0 0 0).m2, .int .i64 (Bx.mk 0 1 0 0 (-1) 0 0 3 0 2 0 0 0 0).m3, .int .i64 (Bx.mk 0 1 0 0 (-1) 0 0 3 0 2 0 0 0 0).e0, .int .i64 (Bx.mk 0 1 0 0 (-1) 0 0 3 0 2 0 0 0 0).e1, .int .i64 (Bx.mk 0 1 0 0 (-1) 0 0 3 0 2 0 0 0 0).e2, .int .i64 (Bx.mk 0 1 0 0 (-1) 0 0 3 0 2 0 0 0 0).e3], .int .i64 15] w fun e w' => e = .returned (.int .i64 20) ∧ Below w.heap.size w w' := fun w => by
    have h := margin_any ⟨0, 1, 0, 0, -1, 0, 0, 3, 0, 2, 0, 0, 0, 0⟩ 15 w
    rwa [show wrap64 (15 + sideS ⟨0, 1, 0, 0, -1, 0, 0, 3, 0, 2, 0, 0, 0, 0⟩) = 20 from by decide +kernel] at h
  have h3 : ∀ w, Calls Try.prog 21 #[.agg #[.int .i64 (Bx.mk 0 1 0 0 (-1) 0 0 3 0 2 0 0 0 0).d, .int .i64 (Bx.mk 0 1 0 0 (-1) 0 0 3 0 2 0 0 0 0).k, .int .i64 (Bx.mk 0 1 0 0 (-1) 0 0 3 0 2 0 0 0 0).s, .int .i64 (Bx.mk 0 1 0 0 (-1) 0 0 3 0 2 0 0 0 0).c, .int .i64 (Bx.mk 0 1 0 0 (-1) 0 0 3 0 2 0 0 0 0).w, .int .i64 (Bx.mk 0 1 0 0 (-1) 0 0 3 0 2 0 0 0 0).h, .int .i64 (Bx.mk 0 1 0 0 (-1) 0 0 3 0 2 0 0 0 0).m0, .int .i64 (Bx.mk 0 1 0 0 (-1) 0 0 3 0 2 0 0 0 0).m1, .int .i64 (Bx.mk 0 1 0 0 (-1) 0 0 3 0 2 0 0 0 0).m2, .int .i64 (Bx.mk 0 1 0 0 (-1) 0 0 3 0 2 0 0 0 0).m3, .int .i64 (Bx.mk 0 1 0 0 (-1) 0 0 3 0 2 0 0 0 0).e0, .int .i64 (Bx.mk 0 1 0 0 (-1) 0 0 3 0 2 0 0 0 0).e1, .int .i64 (Bx.mk 0 1 0 0 (-1) 0 0 3 0 2 0 0 0 0).e2, .int .i64 (Bx.mk 0 1 0 0 (-1) 0 0 3 0 2 0 0 0 0).e3], .int .i64 15] w fun e w' => e = .returned (.int .i64 15) ∧ Below w.heap.size w w' := fun w => by
    have h := border_any ⟨0, 1, 0, 0, -1, 0, 0, 3, 0, 2, 0, 0, 0, 0⟩ 15 w
    rwa [show bordS ⟨0, 1, 0, 0, -1, 0, 0, 3, 0, 2, 0, 0, 0, 0⟩ 15 = 15 from by decide +kernel] at h
  have H1 := Lib.hid h1
  have H2 := Lib.hid h2
  have H3 := Lib.hid h3
  clear h1 h2 h3
  go_enter Try.func15, Try.ntmps15
  go_wp2_with (first | (go_at_call 19; refine (H1.out _).mono ?_; rintro e wx ⟨rfl, hbx⟩; have hzx := hbx.size; obtain ⟨hcx, hfx⟩ := bcell hbx; (try simp [Nat.add_one_le_iff] at hzx); have hc0 := fun o => hcx (w.heap.size) o (by first | omega | (simp; done) | (simp; omega)); (try have hz0 : w.heap.size < wx.heap.size := (by omega))) | (go_at_call 23; refine (H2.out _).mono ?_; rintro e wx ⟨rfl, hbx⟩; have hzx := hbx.size; obtain ⟨hcx, hfx⟩ := bcell hbx; (try simp [Nat.add_one_le_iff] at hzx); have hc0 := fun o => hcx (w.heap.size) o (by first | omega | (simp; done) | (simp; omega)); (try have hz0 : w.heap.size < wx.heap.size := (by omega))) | (go_at_call 21; refine (H3.out _).mono ?_; rintro e wx ⟨rfl, hbx⟩; have hzx := hbx.size; obtain ⟨hcx, hfx⟩ := bcell hbx; (try simp [Nat.add_one_le_iff] at hzx); have hc0 := fun o => hcx (w.heap.size) o (by first | omega | (simp; done) | (simp; omega)); (try have hz0 : w.heap.size < wx.heap.size := (by omega))))
  go_ret
  exact ⟨rfl, by (repeat (first | exact Below.refl _ _ | (refine Below.alloc ?_ (by first | omega | (simp; done) | (simp; omega)) _) | (refine Below.on (by assumption) ?_ (by first | omega | (simp; done) | (simp; omega))) | (refine Below.grown ?_ (by assumption) (by first | omega | (simp; done) | (simp; omega)) (by intro k hk; cases hk)) | refine Below.drew ?_))⟩
end Go.Proofs.Ytpjngnkcjccbcaa
