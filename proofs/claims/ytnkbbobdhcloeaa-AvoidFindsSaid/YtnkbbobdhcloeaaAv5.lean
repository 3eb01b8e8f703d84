/- Avoid: the document's At. -/
import Derived.Test.YtnkbbobdhcloeaaAv4
namespace Go.Proofs.Ytnkbbobdhcloeaa
set_option linter.unusedSimpArgs false
set_option linter.unusedVariables false
open Go.RowKit
def AtPost (L : List Fo) (q : Wa) (y : Int) (w : World) (e : Ending) (w' : World) : Prop :=
  e = .returned (.tuple #[.int .i64 (if soW L q y = true then leftA L q y else 0), .bool (soW L q y)]) ∧ Below w.heap.size w w'
set_option maxRecDepth 20000 in
set_option maxHeartbeats 4000000 in
theorem rat12_any (L : List Fo) (v : Value) (q : Wa) (y : Int) (w : World) (h : IsFos w v L) (hn : L.length ≤ maxLen) (hsm : ∀ f ∈ L, smallF f = true) (hq : okWa q = true) (hy : -4503599627370496 ≤ y ∧ y ≤ 2251799813685248) :
    Calls Try.prog 20 #[v, .agg #[.int .i64 q.a, .int .i64 q.b, .int .i64 q.wd, .int .i64 q.h, .int .i64 q.y], .int .i64 y] w (AtPost L q y w) := by
  obtain ⟨A, cap0, rfl, hx1, hx2⟩ := id h
  clear hx1 hx2
  obtain ⟨⟨ia, ib, iw, ih, iy⟩, i0⟩ := okWa_at hq
  unfold in48 at ia ib iw ih iy
  have hbd := fun w h => rbounds10_any L (.slice A L.length cap0) y q.h w h hn (by omega) (by omega)
  have hfr := fun w h => rfree_any L (.slice A L.length cap0) q.a q.b y q.h w h hn (by omega) (by omega)
  have hed := bnds_edge hsm y q.h
  obtain ⟨sv, hsv⟩ : ∃ s, soW L q y = s := ⟨_, rfl⟩
  have hs1 : sv = decide (q.wd ≤ (freeS L q.a q.b y q.h).2 - (freeS L q.a q.b y q.h).1 ∨ (q.b - q.a < q.wd ∧ (bnds L y q.h).1 ≤ q.a ∧ q.a + q.wd ≤ (bnds L y q.h).2)) := hsv.symm
  unfold TupPost at hbd hfr
  unfold AtPost leftA
  rw [hsv]
  unfold freeS at hs1 hfr ⊢
  generalize bnds L y q.h = p at *
  obtain ⟨p1, p2⟩ := p
  simp only at hbd hfr hed hs1 ⊢
  unfold far at hed
  obtain ⟨r1, hr1⟩ : ∃ r, max q.a p1 = r := ⟨_, rfl⟩
  obtain ⟨r2, hr2⟩ : ∃ r, min q.b p2 = r := ⟨_, rfl⟩
  have hb1 : -4503599627370496 ≤ r1 ∧ r1 ≤ 4503599627370496 := by omega
  have hb2 : -4503599627370496 ≤ r2 ∧ r2 ≤ 4503599627370496 := by omega
  rw [hr1, hr2] at hfr hs1
  rw [hr1]
  have hcs := soA_cases q.wd r1 r2 q.a q.b p1 p2 sv hs1
  have HBD := Lib.hid hbd
  have HFR := Lib.hid hfr
  have HH := Lib.hid h
  clear hbd hfr hed hs1 hsv hr1 hr2 h hn hsm hq iy
  obtain ⟨qa, qb, qw, qh, qy⟩ := q
  simp only at *
  rcases hcs with ⟨d1, rfl⟩ | ⟨d1, ⟨d2, rfl⟩ | ⟨d2, d3, rfl⟩ | ⟨d2, d3, d4, rfl⟩ | ⟨d2, d3, d4, rfl⟩⟩
  all_goals
    go_enter Try.func20, Try.ntmps20
    go_wp2_with fail
    have hnew := (Below.refl w.heap.size w).alloc (Nat.le_refl _) (.cells #[.int .i64 qa, .int .i64 qb, .int .i64 qw, .int .i64 qh, .int .i64 qy] 24)
    have hv := heap_alloc_new w (.cells #[.int .i64 qa, .int .i64 qb, .int .i64 qw, .int .i64 qh, .int .i64 qy] 24)
    generalize w.alloc (.cells #[.int .i64 qa, .int .i64 qb, .int .i64 qw, .int .i64 qh, .int .i64 qy] 24) = w0 at *
    obtain ⟨b0, hb0⟩ : ∃ b, w.heap.size = b := ⟨_, rfl⟩
    rw [hb0] at hv ⊢
    have HB0 := Lib.hid hnew
    have HV := Lib.hid hv
    have HZ := Lib.hid hb0
    clear hnew hv hb0
    refine (HBD.out _ (HH.out.below HB0.out (by rw [HZ.out]; exact Nat.le_refl _))).mono ?_
    rintro e w1 ⟨rfl, hb1⟩
    have hv1 := (hb1.block b0 (Array.getElem?_eq_some_iff.1 HV.out).1).trans HV.out
    have x0 : w1.cell? ⟨b0, 0, none⟩ = some (.int .i64 qa) := cell_of_row w1 b0 0 _ _ (0, 0) hv1
    have x1 : w1.cell? ⟨b0, 1, none⟩ = some (.int .i64 qb) := cell_of_row w1 b0 1 _ _ (0, 0) hv1
    have x3 : w1.cell? ⟨b0, 3, none⟩ = some (.int .i64 qh) := cell_of_row w1 b0 3 _ _ (0, 0) hv1
    have HB1 := Lib.hid (HB0.out.trans (hb1.mono HB0.out.size))
    have HV1 := Lib.hid hv1
    clear hb1 hv1
    go_wp2_with fail
    refine (HFR.out _ (HH.out.below HB1.out (by rw [HZ.out]; exact Nat.le_refl _))).mono ?_
    rintro e w2 ⟨rfl, hb2⟩
    have hv2 := (hb2.block b0 (Array.getElem?_eq_some_iff.1 HV1.out).1).trans HV1.out
    have y0 : w2.cell? ⟨b0, 0, none⟩ = some (.int .i64 qa) := cell_of_row w2 b0 0 _ _ (0, 0) hv2
    have y1 : w2.cell? ⟨b0, 1, none⟩ = some (.int .i64 qb) := cell_of_row w2 b0 1 _ _ (0, 0) hv2
    have y2 : w2.cell? ⟨b0, 2, none⟩ = some (.int .i64 qw) := cell_of_row w2 b0 2 _ _ (0, 0) hv2
    have HB2 := Lib.hid (HB1.out.trans (hb2.mono HB1.out.size))
    clear hb2 hv2 x0 x1 x3
    go_wp2_with fail
    go_ret2
    exact ⟨rfl, HB2.out⟩
end Go.Proofs.Ytnkbbobdhcloeaa
