/- The document's answer for spaces: High, Bounds, Free, Last, Cleared, Bottom, Clear. -/
import Derived.Test.YtecojcdmigmnhaaSpb
import Derived.Test.YtecojcdmigmnhaaRb
namespace Go.Proofs.Ytecojcdmigmnhaa
set_option linter.unusedSimpArgs false
set_option linter.unusedVariables false
open Go.RowKit
def TupPost (p : Int × Int) (w : World) (e : Ending) (w' : World) : Prop := e = .returned (.tuple #[.int .i64 p.1, .int .i64 p.2]) ∧ Below w.heap.size w w'
theorem high_any (hi : Int) (w : World) : Calls Try.prog 88 #[.int .i64 hi] w fun e w' => e = .returned (.int .i64 (hgh hi)) ∧ w = w' := by
  rw [hgh_eq]
  by_cases h : hi < 1
  · have hd : decide (hi < 1) = true := decide_eq_true h
    rw [if_pos h]
    go_enter Try.func88, Try.ntmps88
    go_wp2
    go_ret
    exact ⟨rfl, rfl⟩
  · have hd : decide (hi < 1) = false := decide_eq_false h
    rw [if_neg h]
    go_enter Try.func88, Try.ntmps88
    go_wp2
    go_ret
    exact ⟨rfl, rfl⟩
theorem hgh_le {hi : Int} (h : hi ≤ 4503599627370496) : 1 ≤ hgh hi ∧ hgh hi ≤ 4503599627370496 := by unfold hgh; omega
set_option maxRecDepth 20000 in
theorem rbounds10_any (L : List Fo) (v : Value) (y hi : Int) (w : World) (h : IsFos w v L) (hn : L.length ≤ maxLen) (m1 : -4503599627370496 ≤ y ∧ y ≤ 4503599627370496) (m2 : hi ≤ 4503599627370496) : Calls Try.prog 57 #[v, .int .i64 y, .int .i64 hi] w (TupPost (bnds L y hi) w) := by
  unfold bnds
  have hb := fun w h => rband_any L v y (y + hgh hi) w h hn
  unfold RbPost at hb
  unfold TupPost
  have hg := hgh_le m2
  obtain ⟨hv, hhv⟩ : ∃ x, hgh hi = x := ⟨_, rfl⟩
  have hhi := fun w => high_any hi w
  rw [hhv] at hhi hb hg ⊢
  generalize band L y (y + hv) = q at *
  have HB := Lib.hid hb
  have HH := Lib.hid h
  have HHI := Lib.hid hhi
  clear hb h hn hhi hhv m2
  go_enter Try.func57, Try.ntmps57
  go_wp2_with fail
  refine (HHI.out _).mono ?_
  rintro e w' ⟨rfl, rfl⟩
  go_wp2_with fail
  refine (HB.out _ HH.out).mono ?_
  rintro e w1 ⟨rfl, hb1⟩
  have HB1 := Lib.hid hb1
  clear hb1
  go_wp2_with fail
  go_ret2
  exact ⟨rfl, HB1.out⟩
set_option maxRecDepth 20000 in
theorem rfree_any (L : List Fo) (v : Value) (a b y hi : Int) (w : World) (h : IsFos w v L) (hn : L.length ≤ maxLen) (m1 : -4503599627370496 ≤ y ∧ y ≤ 4503599627370496) (m2 : hi ≤ 4503599627370496) : Calls Try.prog 20 #[v, .int .i64 a, .int .i64 b, .int .i64 y, .int .i64 hi] w (TupPost (freeS L a b y hi) w) := by
  unfold freeS
  have hb := fun w h => rbounds10_any L v y hi w h hn m1 m2
  unfold TupPost at hb ⊢
  generalize bnds L y hi = q at *
  obtain ⟨q1, q2⟩ := q
  have HB := Lib.hid hb
  have HH := Lib.hid h
  clear hb h hn m1 m2
  by_cases h1 : q1 < a <;> by_cases h2 : b < q2
  all_goals
    first
    | have d1 : decide (q1 < a) = true := decide_eq_true h1
    | have d1 : decide (q1 < a) = false := decide_eq_false h1
  all_goals
    first
    | have d2 : decide (b < q2) = true := decide_eq_true h2
    | have d2 : decide (b < q2) = false := decide_eq_false h2
  · have e1 : max a q1 = a := by omega
    have e2 : min b q2 = b := by omega
    simp only [e1, e2]
    clear e1 e2 h1 h2
    go_enter Try.func20, Try.ntmps20
    go_wp2_with (go_at_call 57; refine (HB.out _ HH.out).mono ?_; rintro e w1 ⟨rfl, hb1⟩; have HB1 := Lib.hid hb1; clear hb1)
    go_ret2
    exact ⟨rfl, HB1.out⟩
  · have e1 : max a q1 = a := by omega
    have e2 : min b q2 = q2 := by omega
    simp only [e1, e2]
    clear e1 e2 h1 h2
    go_enter Try.func20, Try.ntmps20
    go_wp2_with (go_at_call 57; refine (HB.out _ HH.out).mono ?_; rintro e w1 ⟨rfl, hb1⟩; have HB1 := Lib.hid hb1; clear hb1)
    go_ret2
    exact ⟨rfl, HB1.out⟩
  · have e1 : max a q1 = q1 := by omega
    have e2 : min b q2 = b := by omega
    simp only [e1, e2]
    clear e1 e2 h1 h2
    go_enter Try.func20, Try.ntmps20
    go_wp2_with (go_at_call 57; refine (HB.out _ HH.out).mono ?_; rintro e w1 ⟨rfl, hb1⟩; have HB1 := Lib.hid hb1; clear hb1)
    go_ret2
    exact ⟨rfl, HB1.out⟩
  · have e1 : max a q1 = q1 := by omega
    have e2 : min b q2 = q2 := by omega
    simp only [e1, e2]
    clear e1 e2 h1 h2
    go_enter Try.func20, Try.ntmps20
    go_wp2_with (go_at_call 57; refine (HB.out _ HH.out).mono ?_; rintro e w1 ⟨rfl, hb1⟩; have HB1 := Lib.hid hb1; clear hb1)
    go_ret2
    exact ⟨rfl, HB1.out⟩
end Go.Proofs.Ytecojcdmigmnhaa
