/- The walk of the law RecordTurns: its cases joined. -/
import Derived.Test.YtpjngnkcjccbcaaTu0
import Derived.Test.YtpjngnkcjccbcaaTu1
import Derived.Test.YtpjngnkcjccbcaaTu2
import Derived.Test.YtpjngnkcjccbcaaTu3
import Derived.Test.YtpjngnkcjccbcaaTu4
import Derived.Test.YtpjngnkcjccbcaaTu5
import Derived.Test.YtpjngnkcjccbcaaTu6
import Derived.Test.YtpjngnkcjccbcaaTu7
import Derived.OpenShut
namespace Go.Proofs.Ytpjngnkcjccbcaa
set_option linter.unusedSimpArgs false
set_option linter.unusedVariables false
open Go.RowKit

set_option maxHeartbeats 1000000 in
theorem turns_no (b : Bx) (a x : Int) (w : World) (h0 : (rchk b != 0) = true) : Calls Try.prog 5 #[.agg #[.int .i64 b.d, .int .i64 b.k, .int .i64 b.s, .int .i64 b.c, .int .i64 b.w, .int .i64 b.h, .int .i64 b.m0, .int .i64 b.m1, .int .i64 b.m2, .int .i64 b.m3, .int .i64 b.e0, .int .i64 b.e1, .int .i64 b.e2, .int .i64 b.e3], .int .u8 a, .int .i64 x] w fun e w' => e = .returned (.bool true) ∧ Below w.heap.size w w' := by
  go_enter Try.func5, Try.ntmps5
  go_wp2_with (first | (go_at_call 25; refine (speaks04 _).mono ?_; rintro e wx ⟨rfl, hbx⟩; have hzx := hbx.size; obtain ⟨hcx, hfx⟩ := bcell hbx; (try simp [Nat.add_one_le_iff] at hzx); have hc0 := fun o => hcx (w.heap.size) o (by first | omega | (simp; done) | (simp; omega)); (try have hz0 : w.heap.size < wx.heap.size := (by omega))) | (go_at_call 16; refine (rchk_any b _).mono ?_; rintro e wx ⟨rfl, hbx⟩; have hzx := hbx.size; obtain ⟨hcx, hfx⟩ := bcell hbx; (try simp [Nat.add_one_le_iff] at hzx); have hc0 := fun o => hcx (w.heap.size) o (by first | omega | (simp; done) | (simp; omega)); (try have hz0 : w.heap.size < wx.heap.size := (by omega))))
  go_ret
  exact ⟨rfl, by (repeat (first | exact Below.refl _ _ | (refine Below.alloc ?_ (by first | omega | (simp; done) | (simp; omega)) _) | (refine Below.on (by assumption) ?_ (by first | omega | (simp; done) | (simp; omega))) | (refine Below.grown ?_ (by assumption) (by first | omega | (simp; done) | (simp; omega)) (by intro k hk; cases hk)) | refine Below.drew ?_))⟩
theorem recordTurns_any (b : Bx) (a x : Int) (w : World) (ha : 0 ≤ a) (hb : a ≤ 255) : Calls Try.prog 5 #[.agg #[.int .i64 b.d, .int .i64 b.k, .int .i64 b.s, .int .i64 b.c, .int .i64 b.w, .int .i64 b.h, .int .i64 b.m0, .int .i64 b.m1, .int .i64 b.m2, .int .i64 b.m3, .int .i64 b.e0, .int .i64 b.e1, .int .i64 b.e2, .int .i64 b.e3], .int .u8 a, .int .i64 x] w fun e w' => e = .returned (.bool true) ∧ Below w.heap.size w w' := by
  by_cases h0 : rchk b = 0
  · obtain ⟨d, k, s, c, wd, ht, m0, m1, m2, m3, e0, e1, e2, e3⟩ := b
    have hi : a % 8 = 0 ∨ a % 8 = 1 ∨ a % 8 = 2 ∨ a % 8 = 3 ∨ a % 8 = 4 ∨ a % 8 = 5 ∨ a % 8 = 6 ∨ a % 8 = 7 := by omega
    by_cases hk : k = 5
    · subst hk
      by_cases hx : x = 0
      · subst hx
        rcases hi with h | h | h | h | h | h | h | h
        · exact turns0c2 d s c wd ht m0 m1 m2 m3 e0 e1 e2 e3 a w h0 ha hb h
        · exact turns1c2 d s c wd ht m0 m1 m2 m3 e0 e1 e2 e3 a w h0 ha hb h
        · exact turns2c2 d s c wd ht m0 m1 m2 m3 e0 e1 e2 e3 a w h0 ha hb h
        · exact turns3c2 d s c wd ht m0 m1 m2 m3 e0 e1 e2 e3 a w h0 ha hb h
        · exact turns4c2 d s c wd ht m0 m1 m2 m3 e0 e1 e2 e3 a w h0 ha hb h
        · exact turns5c2 d s c wd ht m0 m1 m2 m3 e0 e1 e2 e3 a w h0 ha hb h
        · exact turns6c2 d s c wd ht m0 m1 m2 m3 e0 e1 e2 e3 a w h0 ha hb h
        · exact turns7c2 d s c wd ht m0 m1 m2 m3 e0 e1 e2 e3 a w h0 ha hb h
      · have hx' : (x != 0) = true := by simpa using hx
        rcases hi with h | h | h | h | h | h | h | h
        · exact turns0c3 d s c wd ht m0 m1 m2 m3 e0 e1 e2 e3 x a w h0 ha hb h hx'
        · exact turns1c3 d s c wd ht m0 m1 m2 m3 e0 e1 e2 e3 x a w h0 ha hb h hx'
        · exact turns2c3 d s c wd ht m0 m1 m2 m3 e0 e1 e2 e3 x a w h0 ha hb h hx'
        · exact turns3c3 d s c wd ht m0 m1 m2 m3 e0 e1 e2 e3 x a w h0 ha hb h hx'
        · exact turns4c3 d s c wd ht m0 m1 m2 m3 e0 e1 e2 e3 x a w h0 ha hb h hx'
        · exact turns5c3 d s c wd ht m0 m1 m2 m3 e0 e1 e2 e3 x a w h0 ha hb h hx'
        · exact turns6c3 d s c wd ht m0 m1 m2 m3 e0 e1 e2 e3 x a w h0 ha hb h hx'
        · exact turns7c3 d s c wd ht m0 m1 m2 m3 e0 e1 e2 e3 x a w h0 ha hb h hx'
    · have hk' : (k == 5) = false := by simpa using hk
      rcases hi with h | h | h | h | h | h | h | h
      · exact turns0c1 d k s c wd ht m0 m1 m2 m3 e0 e1 e2 e3 x a w h0 ha hb h hk'
      · exact turns1c1 d k s c wd ht m0 m1 m2 m3 e0 e1 e2 e3 x a w h0 ha hb h hk'
      · exact turns2c1 d k s c wd ht m0 m1 m2 m3 e0 e1 e2 e3 x a w h0 ha hb h hk'
      · exact turns3c1 d k s c wd ht m0 m1 m2 m3 e0 e1 e2 e3 x a w h0 ha hb h hk'
      · exact turns4c1 d k s c wd ht m0 m1 m2 m3 e0 e1 e2 e3 x a w h0 ha hb h hk'
      · exact turns5c1 d k s c wd ht m0 m1 m2 m3 e0 e1 e2 e3 x a w h0 ha hb h hk'
      · exact turns6c1 d k s c wd ht m0 m1 m2 m3 e0 e1 e2 e3 x a w h0 ha hb h hk'
      · exact turns7c1 d k s c wd ht m0 m1 m2 m3 e0 e1 e2 e3 x a w h0 ha hb h hk'
  · exact turns_no b a x w (by simpa using h0)
end Go.Proofs.Ytpjngnkcjccbcaa
