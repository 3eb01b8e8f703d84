/- The walk of the law RecordKinds: its kinds joined. -/
import Derived.Test.YtpjngnkcjccbcaaKi1
import Derived.Test.YtpjngnkcjccbcaaKi2
import Derived.Test.YtpjngnkcjccbcaaKi3
import Derived.Test.YtpjngnkcjccbcaaKi4
import Derived.Test.YtpjngnkcjccbcaaKi5
import Derived.OpenShut
namespace Go.Proofs.Ytpjngnkcjccbcaa
set_option linter.unusedSimpArgs false
set_option linter.unusedVariables false
open Go.RowKit

set_option maxHeartbeats 1000000 in
theorem kinds_no (b : Bx) (a : Int) (w : World) (h0 : (rchk b != 0) = true) : Calls Try.prog 6 #[.agg #[.int .i64 b.d, .int .i64 b.k, .int .i64 b.s, .int .i64 b.c, .int .i64 b.w, .int .i64 b.h, .int .i64 b.m0, .int .i64 b.m1, .int .i64 b.m2, .int .i64 b.m3, .int .i64 b.e0, .int .i64 b.e1, .int .i64 b.e2, .int .i64 b.e3], .int .u8 a] w fun e w' => e = .returned (.bool true) ∧ Below w.heap.size w w' := by
  go_enter Try.func6, Try.ntmps6
  go_wp2_with (first | (go_at_call 25; refine (speaks04 _).mono ?_; rintro e wx ⟨rfl, hbx⟩; have hzx := hbx.size; obtain ⟨hcx, hfx⟩ := bcell hbx; (try simp [Nat.add_one_le_iff] at hzx); have hc0 := fun o => hcx (w.heap.size) o (by first | omega | (simp; done) | (simp; omega)); (try have hz0 : w.heap.size < wx.heap.size := (by omega))) | (go_at_call 16; refine (rchk_any b _).mono ?_; rintro e wx ⟨rfl, hbx⟩; have hzx := hbx.size; obtain ⟨hcx, hfx⟩ := bcell hbx; (try simp [Nat.add_one_le_iff] at hzx); have hc0 := fun o => hcx (w.heap.size) o (by first | omega | (simp; done) | (simp; omega)); (try have hz0 : w.heap.size < wx.heap.size := (by omega))))
  go_ret
  exact ⟨rfl, by (repeat (first | exact Below.refl _ _ | (refine Below.alloc ?_ (by first | omega | (simp; done) | (simp; omega)) _) | (refine Below.on (by assumption) ?_ (by first | omega | (simp; done) | (simp; omega))) | (refine Below.grown ?_ (by assumption) (by first | omega | (simp; done) | (simp; omega)) (by intro k hk; cases hk)) | refine Below.drew ?_))⟩
theorem recordKinds_any (b : Bx) (a : Int) (w : World) (ha : 0 ≤ a) (hb : a ≤ 255) : Calls Try.prog 6 #[.agg #[.int .i64 b.d, .int .i64 b.k, .int .i64 b.s, .int .i64 b.c, .int .i64 b.w, .int .i64 b.h, .int .i64 b.m0, .int .i64 b.m1, .int .i64 b.m2, .int .i64 b.m3, .int .i64 b.e0, .int .i64 b.e1, .int .i64 b.e2, .int .i64 b.e3], .int .u8 a] w fun e w' => e = .returned (.bool true) ∧ Below w.heap.size w w' := by
  by_cases h0 : rchk b = 0
  · obtain ⟨d, k, s, c, wd, ht, m0, m1, m2, m3, e0, e1, e2, e3⟩ := b
    have hi : a % 5 = 0 ∨ a % 5 = 1 ∨ a % 5 = 2 ∨ a % 5 = 3 ∨ a % 5 = 4 := by omega
    rcases hi with h | h | h | h | h
    · exact kind1 d k s c wd ht m0 m1 m2 m3 e0 e1 e2 e3 a w h0 ha hb h
    · exact kind2 d k s c wd ht m0 m1 m2 m3 e0 e1 e2 e3 a w h0 ha hb h
    · exact kind3 d k s c wd ht m0 m1 m2 m3 e0 e1 e2 e3 a w h0 ha hb h
    · exact kind4 d k s c wd ht m0 m1 m2 m3 e0 e1 e2 e3 a w h0 ha hb h
    · exact kind5 d k s c wd ht m0 m1 m2 m3 e0 e1 e2 e3 a w h0 ha hb h
  · exact kinds_no b a w (by simpa using h0)
end Go.Proofs.Ytpjngnkcjccbcaa
