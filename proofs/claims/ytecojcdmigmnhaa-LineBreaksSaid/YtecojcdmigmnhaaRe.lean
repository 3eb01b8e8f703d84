/- Contracts of package rect: spans and rectangles. -/
import Derived.Test.YtecojcdmigmnhaaProg
import Derived.Test.YtecojcdmigmnhaaGn
import Derived.IntWalk
namespace Go.Proofs.Ytecojcdmigmnhaa
set_option linter.unusedSimpArgs false
set_option linter.unusedVariables false
open Go.RowKit
/-- Numbers that are not too far away. -/
def Mid (a : Int) : Prop := -9007199254740992 ≤ a ∧ a ≤ 9007199254740992
theorem spanInfo : (Try.prog.info? 61).map (·.size) = some 2 := by kernel_rfl
theorem rectInfo : (Try.prog.info? 52).map (·.size) = some 4 := by kernel_rfl
theorem slen_any (a b : Int) (w : World) (ha : Mid a) (hb : Mid b) : Calls Try.prog 35 #[.agg #[.int .i64 a, .int .i64 b]] w fun e w' => e = .returned (.int .i64 (b - a)) ∧ Below w.heap.size w w' := by
  obtain ⟨a1, a2⟩ := ha
  obtain ⟨b1, b2⟩ := hb
  go_enter Try.func35, Try.ntmps35
  go_wp2
  go_ret
  exact ⟨rfl, by (repeat (first | exact Below.refl _ _ | (refine Below.alloc ?_ (by first | omega | (simp; done) | (simp; omega)) _) | (refine Below.on (by assumption) ?_ (by first | omega | (simp; done) | (simp; omega))) | (refine Below.grown ?_ (by assumption) (by first | omega | (simp; done) | (simp; omega)) (by intro k hk; cases hk)) | refine Below.drew ?_))⟩
theorem columns_any (x0 y0 x1 y1 : Int) (w : World) : Calls Try.prog 72 #[.agg #[.int .i64 x0, .int .i64 y0, .int .i64 x1, .int .i64 y1]] w fun e w' => e = .returned (.agg #[.int .i64 x0, .int .i64 x1]) ∧ Below w.heap.size w w' := by
  go_enter Try.func72, Try.ntmps72
  go_wp2
  exact bodyPost_ret (v := .agg #[.int .i64 x0, .int .i64 x1]) (by simp [results, Try.results72, go_sem]) rfl ⟨rfl, by (repeat (first | exact Below.refl _ _ | (refine Below.alloc ?_ (by first | omega | (simp; done) | (simp; omega)) _) | (refine Below.on (by assumption) ?_ (by first | omega | (simp; done) | (simp; omega))) | (refine Below.grown ?_ (by assumption) (by first | omega | (simp; done) | (simp; omega)) (by intro k hk; cases hk)) | refine Below.drew ?_))⟩
theorem rows_any (x0 y0 x1 y1 : Int) (w : World) : Calls Try.prog 70 #[.agg #[.int .i64 x0, .int .i64 y0, .int .i64 x1, .int .i64 y1]] w fun e w' => e = .returned (.agg #[.int .i64 y0, .int .i64 y1]) ∧ Below w.heap.size w w' := by
  go_enter Try.func70, Try.ntmps70
  go_wp2
  exact bodyPost_ret (v := .agg #[.int .i64 y0, .int .i64 y1]) (by simp [results, Try.results70, go_sem]) rfl ⟨rfl, by (repeat (first | exact Below.refl _ _ | (refine Below.alloc ?_ (by first | omega | (simp; done) | (simp; omega)) _) | (refine Below.on (by assumption) ?_ (by first | omega | (simp; done) | (simp; omega))) | (refine Below.grown ?_ (by assumption) (by first | omega | (simp; done) | (simp; omega)) (by intro k hk; cases hk)) | refine Below.drew ?_))⟩
def fullB (x0 y0 x1 y1 : Int) : Bool := decide (x0 < x1 ∧ y0 < y1)
set_option maxRecDepth 20000 in
set_option maxHeartbeats 1000000 in
theorem full_any (x0 y0 x1 y1 : Int) (w : World) (h0 : Mid x0) (h1 : Mid y0) (h2 : Mid x1) (h3 : Mid y1) : Calls Try.prog 75 #[.agg #[.int .i64 x0, .int .i64 y0, .int .i64 x1, .int .i64 y1]] w fun e w' => e = .returned (.bool (fullB x0 y0 x1 y1)) ∧ Below w.heap.size w w' := by
  have hl := fun w => slen_any x0 x1 w h0 h2
  have hm := fun w => slen_any y0 y1 w h1 h3
  have HL := Lib.hid hl
  have HM := Lib.hid hm
  clear hl hm
  have hd : (decide (x0 < x1) = false ∧ fullB x0 y0 x1 y1 = false) ∨ (decide (x0 < x1) = true ∧ decide (y0 < y1) = false ∧ fullB x0 y0 x1 y1 = false) ∨ (decide (x0 < x1) = true ∧ decide (y0 < y1) = true ∧ fullB x0 y0 x1 y1 = true) := by
    unfold fullB
    by_cases c1 : x0 < x1
    · by_cases c2 : y0 < y1
      · right; right; exact ⟨decide_eq_true c1, decide_eq_true c2, decide_eq_true ⟨c1, c2⟩⟩
      · right; left; exact ⟨decide_eq_true c1, decide_eq_false c2, decide_eq_false (fun h => c2 h.2)⟩
    · left; exact ⟨decide_eq_false c1, decide_eq_false (fun h => c1 h.1)⟩
  clear h0 h1 h2 h3
  rcases hd with ⟨c1, c2⟩ | ⟨c1, c3, c2⟩ | ⟨c1, c3, c2⟩
  all_goals
    rw [c2]
    clear c2
    go_enter Try.func75, Try.ntmps75
    go_wp2_with (first
      | (go_at_call 72; refine (columns_any x0 y0 x1 y1 _).mono ?_; rintro e w1 ⟨rfl, hb1⟩; have hc1 := fun o => hb1.cell (p := ⟨w.heap.size, o, none⟩) (by simp; done); have hz1 := hb1.size; simp [Nat.add_one_le_iff] at hz1; have HB1 := Lib.hid (Below.onto hb1 ((Below.refl _ _).alloc (Nat.le_refl _) _)); clear hb1)
      | (go_at_call 70; refine (rows_any x0 y0 x1 y1 _).mono ?_; rintro e w1 ⟨rfl, hb1⟩; have HB1 := Lib.hid (Below.onto hb1 HB1.out); clear hb1)
      | (go_at_call 35; (with_reducible refine (HL.out _).mono ?_); rintro e w1 ⟨rfl, hb1⟩; have hc1 := fun o => hb1.cell (p := ⟨w.heap.size, o, none⟩) (by omega); have HB1 := Lib.hid (Below.onto hb1 HB1.out); clear hb1)
      | (go_at_call 35; (with_reducible refine (HM.out _).mono ?_); rintro e w1 ⟨rfl, hb1⟩; have HB1 := Lib.hid (Below.onto hb1 HB1.out); clear hb1))
    go_ret
    exact ⟨rfl, HB1.out⟩
end Go.Proofs.Ytecojcdmigmnhaa
