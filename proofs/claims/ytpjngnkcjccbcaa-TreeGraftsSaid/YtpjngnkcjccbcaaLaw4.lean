/- The walks of the laws of layer 4. -/
import Derived.Test.YtpjngnkcjccbcaaChk
import Derived.Test.YtpjngnkcjccbcaaPl
import Derived.Test.YtpjngnkcjccbcaaRec
import Derived.Test.YtpjngnkcjccbcaaWid
namespace Go.Proofs.Ytpjngnkcjccbcaa
set_option linter.unusedSimpArgs false
set_option linter.unusedVariables false
open Go.RowKit
theorem check_any (b : Bx) (w : World) : Calls Try.prog 26 #[.agg #[.int .i64 b.d, .int .i64 b.k, .int .i64 b.s, .int .i64 b.c, .int .i64 b.w, .int .i64 b.h, .int .i64 b.m0, .int .i64 b.m1, .int .i64 b.m2, .int .i64 b.m3, .int .i64 b.e0, .int .i64 b.e1, .int .i64 b.e2, .int .i64 b.e3]] w fun e w' => e = .returned (.int .i64 (rchk b)) ∧ Below w.heap.size w w' := by
  have h := pchk_any b w
  rwa [chk_eq] at h

theorem speaks04 (w : World) : Calls Try.prog 25 #[] w fun e w' => e = .returned (.bool true) ∧ Below w.heap.size w w' := by
  have h1 : ∀ w, Calls Try.prog 26 #[.agg #[.int .i64 (Bx.mk 0 2 0 0 0 0 0 0 0 0 0 0 0 0).d, .int .i64 (Bx.mk 0 2 0 0 0 0 0 0 0 0 0 0 0 0).k, .int .i64 (Bx.mk 0 2 0 0 0 0 0 0 0 0 0 0 0 0).s, .int .i64 (Bx.mk 0 2 0 0 0 0 0 0 0 0 0 0 0 0).c, .int .i64 (Bx.mk 0 2 0 0 0 0 0 0 0 0 0 0 0 0).w, .int .i64 (Bx.mk 0 2 0 0 0 0 0 0 0 0 0 0 0 0).h, .int .i64 (Bx.mk 0 2 0 0 0 0 0 0 0 0 0 0 0 0).m0, .int .i64 (Bx.mk 0 2 0 0 0 0 0 0 0 0 0 0 0 0).m1, .int .i64 (Bx.mk 0 2 0 0 0 0 0 0 0 0 0 0 0 0).m2, .int .i64 (Bx.mk 0 2 0 0 0 0 0 0 0 0 0 0 0 0).m3, .int .i64 (Bx.mk 0 2 0 0 0 0 0 0 0 0 0 0 0 0).e0, .int .i64 (Bx.mk 0 2 0 0 0 0 0 0 0 0 0 0 0 0).e1, .int .i64 (Bx.mk 0 2 0 0 0 0 0 0 0 0 0 0 0 0).e2, .int .i64 (Bx.mk 0 2 0 0 0 0 0 0 0 0 0 0 0 0).e3]] w fun e w' => e = .returned (.int .i64 5) ∧ Below w.heap.size w w' := fun w => by
    have h := check_any ⟨0, 2, 0, 0, 0, 0, 0, 0, 0, 0, 0, 0, 0, 0⟩ w
    rwa [show rchk ⟨0, 2, 0, 0, 0, 0, 0, 0, 0, 0, 0, 0, 0, 0⟩ = 5 from by decide +kernel] at h
  have h2 : ∀ w, Calls Try.prog 26 #[.agg #[.int .i64 (Bx.mk 0 1 0 0 0 0 0 0 0 0 0 0 0 0).d, .int .i64 (Bx.mk 0 1 0 0 0 0 0 0 0 0 0 0 0 0).k, .int .i64 (Bx.mk 0 1 0 0 0 0 0 0 0 0 0 0 0 0).s, .int .i64 (Bx.mk 0 1 0 0 0 0 0 0 0 0 0 0 0 0).c, .int .i64 (Bx.mk 0 1 0 0 0 0 0 0 0 0 0 0 0 0).w, .int .i64 (Bx.mk 0 1 0 0 0 0 0 0 0 0 0 0 0 0).h, .int .i64 (Bx.mk 0 1 0 0 0 0 0 0 0 0 0 0 0 0).m0, .int .i64 (Bx.mk 0 1 0 0 0 0 0 0 0 0 0 0 0 0).m1, .int .i64 (Bx.mk 0 1 0 0 0 0 0 0 0 0 0 0 0 0).m2, .int .i64 (Bx.mk 0 1 0 0 0 0 0 0 0 0 0 0 0 0).m3, .int .i64 (Bx.mk 0 1 0 0 0 0 0 0 0 0 0 0 0 0).e0, .int .i64 (Bx.mk 0 1 0 0 0 0 0 0 0 0 0 0 0 0).e1, .int .i64 (Bx.mk 0 1 0 0 0 0 0 0 0 0 0 0 0 0).e2, .int .i64 (Bx.mk 0 1 0 0 0 0 0 0 0 0 0 0 0 0).e3]] w fun e w' => e = .returned (.int .i64 0) ∧ Below w.heap.size w w' := fun w => by
    have h := check_any ⟨0, 1, 0, 0, 0, 0, 0, 0, 0, 0, 0, 0, 0, 0⟩ w
    rwa [show rchk ⟨0, 1, 0, 0, 0, 0, 0, 0, 0, 0, 0, 0, 0, 0⟩ = 0 from by decide +kernel] at h
  have H1 := Lib.hid h1
  have H2 := Lib.hid h2
  clear h1 h2
  
  go_enter Try.func25, Try.ntmps25
  go_wp2_with fail
  refine (H1.out _).mono ?_
  rintro e wx ⟨rfl, hbx⟩
  go_wp2_with fail
  refine (H2.out _).mono ?_
  rintro e wy ⟨rfl, hby⟩
  go_wp2_with fail
  go_ret
  exact ⟨rfl, Below.next hbx hby⟩

set_option maxHeartbeats 1000000 in
theorem recordChecks_any (b : Bx) (w : World) : Calls Try.prog 4 #[.agg #[.int .i64 b.d, .int .i64 b.k, .int .i64 b.s, .int .i64 b.c, .int .i64 b.w, .int .i64 b.h, .int .i64 b.m0, .int .i64 b.m1, .int .i64 b.m2, .int .i64 b.m3, .int .i64 b.e0, .int .i64 b.e1, .int .i64 b.e2, .int .i64 b.e3]] w fun e w' => e = .returned (.bool true) ∧ Below w.heap.size w w' := by
  go_enter Try.func4, Try.ntmps4
  go_wp2_with fail
  (refine wp_region_grow (by kernel_rfl) (by kernel_rfl) ?_; (repeat (first | (refine wpQuiet_no (by rfl) ?_; go_simp) | (refine wpQuiet_val (by rfl) _ (by intro wq hq; have hcq := (bcell hq).1; have hc0 := fun o => hcq (w.heap.size) o (by first | omega | (simp; done) | (simp; omega)); (try have hz0 : w.heap.size < wq.heap.size := (by omega)); go_simp; rfl) ?_; go_simp) | (refine wpQuiet_call (by rfl) _ _ (by intro wq hq; have hcq := (bcell hq).1; have hc0 := fun o => hcq (w.heap.size) o (by first | omega | (simp; done) | (simp; omega)); (try have hz0 : w.heap.size < wq.heap.size := (by omega)); go_simp; exact ⟨rfl, rfl⟩) _ (by intro wq hq; first | (go_at_call 25; exact Calls.grow hq (speaks04 _)) | (go_at_call 18; exact Calls.grow hq (of_any b _)) | (go_at_call 26; exact Calls.grow hq (check_any b _)) | (go_at_call 16; exact Calls.grow hq (rchk_any b _))) ?_; go_simp))); refine wpQuiet_nil ?_; intro wy hbx; have hzx := hbx.size; obtain ⟨hcx, hfx⟩ := bcell hbx; have hbx' := Lies.below hbx; (try simp [Nat.add_one_le_iff] at hzx); have hc0 := fun o => hcx (w.heap.size) o (by first | omega | (simp; done) | (simp; omega)); (try have hz0 : w.heap.size < wy.heap.size := (by omega)))
  go_wp2
  go_ret
  exact ⟨rfl, by (repeat (first | exact Below.refl _ _ | (refine Below.alloc ?_ (by first | omega | (simp; done) | (simp; omega)) _) | (refine Below.on (by assumption) ?_ (by first | omega | (simp; done) | (simp; omega))) | (refine Below.grown ?_ (by assumption) (by first | omega | (simp; done) | (simp; omega)) (by intro k hk; cases hk)) | refine Below.drew ?_))⟩
end Go.Proofs.Ytpjngnkcjccbcaa
