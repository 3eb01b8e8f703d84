/- Place: the document's At, Start, Find. -/
import Derived.Test.YtnkbbobdhcloeaaP3
import Derived.Test.YtnkbbobdhcloeaaSpr
import Derived.Test.YtnkbbobdhcloeaaSpl
namespace Go.Proofs.Ytnkbbobdhcloeaa
set_option linter.unusedSimpArgs false
set_option linter.unusedVariables false
open Go.RowKit
/-- The ways through the document's At, at the left. -/
theorem ratl_cases (wd a b p1 p2 r1 r2 : Int) (so : Bool) (h1 : max a p1 = r1) (hs : so = decide (wd ≤ r2 - r1 ∨ (b - a < wd ∧ p1 ≤ a ∧ a + wd ≤ p2))) :
    (decide (wd ≤ r2 - r1) = true ∧ so = true) ∨ (decide (wd ≤ r2 - r1) = false ∧ decide (b - a < wd) = false ∧ so = false) ∨ (decide (wd ≤ r2 - r1) = false ∧ decide (b - a < wd) = true ∧ (r1 == a) = false ∧ so = false) ∨
    (decide (wd ≤ r2 - r1) = false ∧ decide (b - a < wd) = true ∧ (r1 == a) = true ∧ decide (a + wd ≤ p2) = false ∧ so = false) ∨ (decide (wd ≤ r2 - r1) = false ∧ decide (b - a < wd) = true ∧ (r1 == a) = true ∧ decide (a + wd ≤ p2) = true ∧ so = true) := by
  by_cases g1 : wd ≤ r2 - r1
  · left; exact ⟨decide_eq_true g1, by rw [hs]; exact decide_eq_true (.inl g1)⟩
  · right
    by_cases g2 : b - a < wd
    · right
      by_cases g3 : r1 = a
      · right
        by_cases g4 : a + wd ≤ p2
        · right; exact ⟨decide_eq_false g1, decide_eq_true g2, by simp [g3], decide_eq_true g4, by rw [hs]; exact decide_eq_true (by omega)⟩
        · left; exact ⟨decide_eq_false g1, decide_eq_true g2, by simp [g3], decide_eq_false g4, by rw [hs]; exact decide_eq_false (by omega)⟩
      · left; exact ⟨decide_eq_false g1, decide_eq_true g2, by simp [g3], by rw [hs]; exact decide_eq_false (by omega)⟩
    · left; exact ⟨decide_eq_false g1, decide_eq_false g2, by rw [hs]; exact decide_eq_false (by omega)⟩
/-- At the right. -/
theorem ratr_cases (wd a b p1 p2 r1 r2 : Int) (so : Bool) (h1 : min b p2 = r2) (hs : so = decide (wd ≤ r2 - r1 ∨ (b - a < wd ∧ p1 ≤ b - wd ∧ b ≤ p2))) :
    (decide (wd ≤ r2 - r1) = true ∧ so = true) ∨ (decide (wd ≤ r2 - r1) = false ∧ decide (b - a < wd) = false ∧ so = false) ∨ (decide (wd ≤ r2 - r1) = false ∧ decide (b - a < wd) = true ∧ (r2 == b) = false ∧ so = false) ∨
    (decide (wd ≤ r2 - r1) = false ∧ decide (b - a < wd) = true ∧ (r2 == b) = true ∧ decide (p1 ≤ b - wd) = false ∧ so = false) ∨ (decide (wd ≤ r2 - r1) = false ∧ decide (b - a < wd) = true ∧ (r2 == b) = true ∧ decide (p1 ≤ b - wd) = true ∧ so = true) := by
  by_cases g1 : wd ≤ r2 - r1
  · left; exact ⟨decide_eq_true g1, by rw [hs]; exact decide_eq_true (.inl g1)⟩
  · right
    by_cases g2 : b - a < wd
    · right
      by_cases g3 : r2 = b
      · right
        by_cases g4 : p1 ≤ b - wd
        · right; exact ⟨decide_eq_false g1, decide_eq_true g2, by simp [g3], decide_eq_true g4, by rw [hs]; exact decide_eq_true (by omega)⟩
        · left; exact ⟨decide_eq_false g1, decide_eq_true g2, by simp [g3], decide_eq_false g4, by rw [hs]; exact decide_eq_false (by omega)⟩
      · left; exact ⟨decide_eq_false g1, decide_eq_true g2, by simp [g3], by rw [hs]; exact decide_eq_false (by omega)⟩
    · left; exact ⟨decide_eq_false g1, decide_eq_false g2, by rw [hs]; exact decide_eq_false (by omega)⟩
set_option maxRecDepth 20000 in
set_option maxHeartbeats 8000000 in
theorem rat11_any (L : List Fo) (v : Value) (q : Wp) (y : Int) (w : World) (h : IsFos w v L) (hn : L.length ≤ maxLen) (hsm : ∀ f ∈ L, smallF f = true) (hq : okWp q = true) (hy : -4503599627370496 ≤ y ∧ y ≤ 2251799813685248) :
    Calls Try.prog 33 #[v, .agg #[.int .i64 q.s, .int .i64 q.c, .int .i64 q.a, .int .i64 q.b, .int .i64 q.wd, .int .i64 q.h, .int .i64 q.y], .int .i64 y] w (PAtPost L q y w) := by
  obtain ⟨A, cap0, rfl, hx1, hx2⟩ := id h
  clear hx1 hx2
  obtain ⟨⟨ia, ib, iw, ih, iy⟩, i0, i1, i2, i3⟩ := okWp_at hq
  unfold in48 at ia ib iw ih iy
  have hbd := fun w h => rbounds10_any L (.slice A L.length cap0) y q.h w h hn (by omega) (by omega)
  have hfr := fun w h => rfree_any L (.slice A L.length cap0) q.a q.b y q.h w h hn (by omega) (by omega)
  have hed := bnds_edge hsm y q.h
  obtain ⟨sv, hsv⟩ : ∃ s, soP L q y = s := ⟨_, rfl⟩
  have hs1 : sv = decide (q.wd ≤ (freeS L q.a q.b y q.h).2 - (freeS L q.a q.b y q.h).1 ∨ (q.b - q.a < q.wd ∧ (bnds L y q.h).1 ≤ (atS q.s q.wd q.a q.b).1 ∧ (atS q.s q.wd q.a q.b).2 ≤ (bnds L y q.h).2)) := hsv.symm
  unfold TupPost at hbd hfr
  unfold PAtPost leftP
  rw [hsv]
  unfold freeS at hs1 hfr ⊢
  generalize bnds L y q.h = p at *
  obtain ⟨p1, p2⟩ := p
  simp only at hbd hfr hed hs1 ⊢
  unfold far at hed
  obtain ⟨r1, hr1⟩ : ∃ r, max q.a p1 = r := ⟨_, rfl⟩
  obtain ⟨r2, hr2⟩ : ∃ r, min q.b p2 = r := ⟨_, rfl⟩
  have hb1 : -4503599627370496 ≤ r1 ∧ r1 ≤ 4503599627370496 := by omega
  have hb2 : -4503599627370496 ≤ r2 ∧ r2 ≤ 4503599627370496 := by omega
  rw [hr1, hr2] at hfr hs1 ⊢
  have HBD := Lib.hid hbd
  have HFR := Lib.hid hfr
  have HH := Lib.hid h
  obtain ⟨W0, hW0⟩ : ∃ W, w.alloc (.cells #[.int .i64 q.s, .int .i64 q.c, .int .i64 q.a, .int .i64 q.b, .int .i64 q.wd, .int .i64 q.h, .int .i64 q.y] 55) = W := ⟨_, rfl⟩
  obtain ⟨b0, hb0⟩ : ∃ b, w.heap.size = b := ⟨_, rfl⟩
  have hv0 : W0.heap[b0]? = some (.cells #[.int .i64 q.s, .int .i64 q.c, .int .i64 q.a, .int .i64 q.b, .int .i64 q.wd, .int .i64 q.h, .int .i64 q.y] 55 (0, 0)) := by rw [← hW0, ← hb0]; exact heap_alloc_new w _
  have hB0 : Below w.heap.size w W0 := by rw [← hW0]; exact (Below.refl _ _).alloc (Nat.le_refl _) _
  have HF0 := Lib.hid (HH.out.below hB0 (Nat.le_refl _))
  have HB0 := Lib.hid hB0
  have HV0 := Lib.hid hv0
  have HW0 := Lib.hid hW0
  have HBB := Lib.hid hb0
  clear hbd hfr hsv h hn hsm hq iy hB0 hv0 hW0 hb0 i1 i2 i3
  obtain ⟨qs, qc, qa, qb, qw, qh, qy⟩ := q
  unfold atS at *
  simp only at *
  by_cases hside : qs = 1
  · subst hside
    simp only [if_true] at hs1 ⊢
    have hcs := ratl_cases qw qa qb p1 p2 r1 r2 sv hr1 hs1
    clear hs1 hr1 hr2 i0
    rcases hcs with ⟨d1, rfl⟩ | ⟨d1, d2, rfl⟩ | ⟨d1, d2, d3, rfl⟩ | ⟨d1, d2, d3, d4, rfl⟩ | ⟨d1, d2, d3, d4, rfl⟩
    all_goals
      go_enter Try.func33, Try.ntmps33
      go_wp2_with fail
      rw [HW0.out, HBB.out]
      obtain ⟨x0, x1, x2, x3, x4, x5, x6⟩ := boxP HV0.out
      go_wp2_with fail
      refine (HBD.out _ HF0.out).mono ?_
      rintro e w1 ⟨rfl, hb1⟩
      have HF1 := Lib.hid (HF0.out.below hb1 (Nat.le_refl _))
      have HB1 := Lib.hid (Below.onto hb1 HB0.out)
      have HV1 := Lib.hid (keepB HV0.out hb1)
      clear hb1 x0 x1 x2 x3 x4 x5 x6
      obtain ⟨x0, x1, x2, x3, x4, x5, x6⟩ := boxP HV1.out
      go_wp2_with fail
      refine (HFR.out _ HF1.out).mono ?_
      rintro e w2 ⟨rfl, hb2⟩
      have HB2 := Lib.hid (Below.onto hb2 HB1.out)
      have HV2 := Lib.hid (keepB HV1.out hb2)
      clear hb2 x0 x1 x2 x3 x4 x5 x6
      obtain ⟨x0, x1, x2, x3, x4, x5, x6⟩ := boxP HV2.out
      go_wp2_with fail
      go_ret2
      exact ⟨rfl, HB2.out⟩
  · have hde : (qs == 1) = false := by simp [hside]
    simp only [if_neg hside] at hs1 ⊢
    have hcs := ratr_cases qw qa qb p1 p2 r1 r2 sv hr2 hs1
    clear hs1 hr1 hr2 i0 hside
    rcases hcs with ⟨d1, rfl⟩ | ⟨d1, d2, rfl⟩ | ⟨d1, d2, d3, rfl⟩ | ⟨d1, d2, d3, d4, rfl⟩ | ⟨d1, d2, d3, d4, rfl⟩
    all_goals
      go_enter Try.func33, Try.ntmps33
      go_wp2_with fail
      rw [HW0.out, HBB.out]
      obtain ⟨x0, x1, x2, x3, x4, x5, x6⟩ := boxP HV0.out
      go_wp2_with fail
      refine (HBD.out _ HF0.out).mono ?_
      rintro e w1 ⟨rfl, hb1⟩
      have HF1 := Lib.hid (HF0.out.below hb1 (Nat.le_refl _))
      have HB1 := Lib.hid (Below.onto hb1 HB0.out)
      have HV1 := Lib.hid (keepB HV0.out hb1)
      clear hb1 x0 x1 x2 x3 x4 x5 x6
      obtain ⟨x0, x1, x2, x3, x4, x5, x6⟩ := boxP HV1.out
      go_wp2_with fail
      refine (HFR.out _ HF1.out).mono ?_
      rintro e w2 ⟨rfl, hb2⟩
      have HB2 := Lib.hid (Below.onto hb2 HB1.out)
      have HV2 := Lib.hid (keepB HV1.out hb2)
      clear hb2 x0 x1 x2 x3 x4 x5 x6
      obtain ⟨x0, x1, x2, x3, x4, x5, x6⟩ := boxP HV2.out
      go_wp2_with fail
      go_ret2
      exact ⟨rfl, HB2.out⟩
set_option maxRecDepth 20000 in
set_option maxHeartbeats 4000000 in
theorem rstart11_any (L : List Fo) (v : Value) (q : Wp) (w : World) (h : IsFos w v L) (hn : L.length ≤ maxLen) (hs : ∀ f ∈ L, f.s = 1 ∨ f.s = 2) : Calls Try.prog 37 #[v, .agg #[.int .i64 q.s, .int .i64 q.c, .int .i64 q.a, .int .i64 q.b, .int .i64 q.wd, .int .i64 q.h, .int .i64 q.y]] w (IntPost (startP L q) w) := by
  obtain ⟨A, cap0, rfl, hx1, hx2⟩ := id h
  clear hx1 hx2
  have hcl := fun w h => rclear_any L (.slice A L.length cap0) q.c q.y w h hn hs
  have hla := fun w h => rlast_any L (.slice A L.length cap0) w h hn
  unfold IntPost at hcl ⊢
  unfold EdgePost at hla
  unfold startP
  obtain ⟨⟨t, ok⟩, he⟩ : ∃ e, lastS L = e := ⟨_, rfl⟩
  obtain ⟨cy, hcy⟩ : ∃ e, clrS q.c L q.y = e := ⟨_, rfl⟩
  rw [he] at hla ⊢
  rw [hcy] at hcl ⊢
  obtain ⟨W0, hW0⟩ : ∃ W, w.alloc (.cells #[.int .i64 q.s, .int .i64 q.c, .int .i64 q.a, .int .i64 q.b, .int .i64 q.wd, .int .i64 q.h, .int .i64 q.y] 55) = W := ⟨_, rfl⟩
  obtain ⟨b0, hb0⟩ : ∃ b, w.heap.size = b := ⟨_, rfl⟩
  have r0 : W0.heap[b0]? = some (.cells #[.int .i64 q.s, .int .i64 q.c, .int .i64 q.a, .int .i64 q.b, .int .i64 q.wd, .int .i64 q.h, .int .i64 q.y] 55 (0, 0)) := by rw [← hW0, ← hb0]; exact heap_alloc_new w _
  have hB0 : Below w.heap.size w W0 := by rw [← hW0]; exact (Below.refl _ _).alloc (Nat.le_refl _) _
  have HF0 := Lib.hid (h.below hB0 (Nat.le_refl _))
  have HCL := Lib.hid hcl
  have HLA := Lib.hid hla
  have HB0 := Lib.hid hB0
  have HW0 := Lib.hid hW0
  have HBB := Lib.hid hb0
  obtain ⟨x0, x1, x2, x3, x4, x5, x6⟩ := boxP r0
  clear hcl hla hB0 hW0 hb0 h he hcy r0 hn hs
  obtain ⟨qs, qc, qa, qb, qw, qh, qy⟩ := q
  simp only at *
  have hcs : (ok = false ∧ (if ok = true then max cy t else cy) = cy) ∨ (ok = true ∧ decide (cy < t) = false ∧ (if ok = true then max cy t else cy) = cy) ∨ (ok = true ∧ decide (cy < t) = true ∧ (if ok = true then max cy t else cy) = t) := by
    cases ok with
    | false => left; exact ⟨rfl, if_neg (by simp)⟩
    | true =>
      right
      rw [if_pos rfl]
      by_cases hlt : cy < t
      · right; exact ⟨rfl, decide_eq_true hlt, Int.max_eq_right (by omega)⟩
      · left; exact ⟨rfl, decide_eq_false hlt, Int.max_eq_left (by omega)⟩
  rcases hcs with ⟨rfl, he⟩ | ⟨rfl, d1, he⟩ | ⟨rfl, d1, he⟩
  all_goals
    rw [he]
    clear he
    go_enter Try.func37, Try.ntmps37
    go_wp2_with fail
    rw [HW0.out, HBB.out]
    go_wp2_with fail
    refine (HCL.out W0 HF0.out).mono ?_
    rintro e w1 ⟨rfl, hb1⟩
    have HF1 := Lib.hid (HF0.out.below hb1 (Nat.le_refl _))
    have HB1 := Lib.hid (Below.onto hb1 HB0.out)
    clear hb1 x0 x1 x2 x3 x4 x5 x6
    go_wp2_with fail
    refine (HLA.out w1 HF1.out).mono ?_
    rintro e w2 ⟨rfl, hb2⟩
    have HB2 := Lib.hid (Below.onto hb2 HB1.out)
    clear hb2
    go_wp2_with fail
    go_ret
    exact ⟨rfl, HB2.out⟩
theorem rectRInfoP : (Try.prog.info? 51).map (·.size) = some 4 := by kernel_rfl
theorem pst_le {L : List Fo} {q : Wp} (h : nearB L = true) (hq : okWp q = true) : startP L q ≤ topP L q := (topP_first h hq).1
set_option maxRecDepth 20000 in
set_option maxHeartbeats 4000000 in
theorem rfind11_any (L : List Fo) (v : Value) (q : Wp) (w : World) (h : IsFos w v L) (hn : L.length ≤ maxLen) (hnb : nearB L = true) (hq : okWp q = true) :
    Calls Try.prog 38 #[v, .agg #[.int .i64 q.s, .int .i64 q.c, .int .i64 q.a, .int .i64 q.b, .int .i64 q.wd, .int .i64 q.h, .int .i64 q.y]] w (PFindPost L q w) := by
  obtain ⟨A, cap0, rfl, hx1, hx2⟩ := id h
  clear hx1 hx2
  have hfs := topP_first hnb hq
  have hed := topP_edge hnb hq
  have hti := topP_in hnb hq
  have hsi := startP_in hnb hq
  have hat := fun y w h (hy : -4503599627370496 ≤ y ∧ y ≤ 2251799813685248) => rat11_any L (.slice A L.length cap0) q y w h hn (fun f hf => near_small (nearB_at hnb f hf)) hq hy
  have hnx := fun y w h => next_any L (.slice A L.length cap0) y w h hn
  have hsr := fun w h => rstart11_any L (.slice A L.length cap0) q w h hn (fun f hf => (nearF_at (nearB_at hnb f hf)).2.2.2.2)
  have hst := fun (y : Int) h1 h2 hs => next_step (y := y) hfs hed h1 h2 hs (nxs_is L y)
  obtain ⟨⟨ia, ib, iw, ih, iy⟩, i0⟩ := okWp_at hq
  unfold in48 at ia ib iw ih iy
  have hli := leftP_in (y := topP L q) hnb hq
  unfold PAtPost at hat
  unfold NxPost at hnx
  unfold IntPost at hsr
  unfold PFindPost
  have hqt := hfs.1
  have htr := hfs.2.2
  generalize topP L q = tp at *
  generalize startP L q = st at *
  obtain ⟨lv, hlw⟩ : ∃ t, leftP L q tp = t := ⟨_, rfl⟩
  rw [hlw] at hli ⊢
  obtain ⟨b0, hb0⟩ : ∃ b, w.heap.size = b := ⟨_, rfl⟩
  obtain ⟨W2, hW2⟩ : ∃ W, (w.alloc (.cells #[.int .i64 q.s, .int .i64 q.c, .int .i64 q.a, .int .i64 q.b, .int .i64 q.wd, .int .i64 q.h, .int .i64 q.y] 55)).alloc (.cells #[.int .i64 0, .int .i64 0, .int .i64 0, .int .i64 0] 51) = W := ⟨_, rfl⟩
  have r0 : W2.heap[b0]? = some (.cells #[.int .i64 q.s, .int .i64 q.c, .int .i64 q.a, .int .i64 q.b, .int .i64 q.wd, .int .i64 q.h, .int .i64 q.y] 55 (0, 0)) := by rw [← hW2, ← hb0, heap_alloc_old _ _ (by simp)]; exact heap_alloc_new w _
  have r1 : W2.heap[b0 + 1]? = some (.cells #[.int .i64 0, .int .i64 0, .int .i64 0, .int .i64 0] 51 (0, 0)) := by rw [← hW2, ← hb0]; exact heap_alloc2_new w _ _
  have hB2 : Below w.heap.size w W2 := by rw [← hW2]; exact ((Below.refl _ _).alloc (Nat.le_refl _) _).alloc (by simp) _
  have HF := Lib.hid (h.below hB2 (Nat.le_refl _))
  have HAT := Lib.hid hat
  have HNX := Lib.hid hnx
  have HST := Lib.hid hst
  have HSR := Lib.hid hsr
  have HTR := Lib.hid htr
  have HLW := Lib.hid hlw
  have HW2 := Lib.hid hW2
  have HB0 := Lib.hid hb0
  have HB2 := Lib.hid hB2
  have R0 := Lib.hid r0
  have R1 := Lib.hid r1
  obtain ⟨x0, x1, x2, x3, x4, x5, x6⟩ := boxP r0
  clear hat hnx hst hsr htr hlw hW2 hb0 hB2 r0 r1 h hn hnb hq hfs hed ia ib i0
  go_enter Try.func38, Try.ntmps38
  go_wp2_with fail
  rw [HW2.out, HB0.out]
  go_wp2_with fail
  refine (HSR.out W2 HF.out).mono ?_
  rintro e w1 ⟨rfl, hb1⟩
  have HF1 := Lib.hid (HF.out.below hb1 (Nat.le_refl _))
  have HR0' := Lib.hid (keepB R0.out hb1)
  have HR1' := Lib.hid (keepB R1.out hb1)
  have HB1 := Lib.hid (Below.onto hb1 HB2.out)
  clear hb1 x0 x1 x2 x3 x4 x5 x6
  go_wp2_with fail
  go_loopw [5] (fun x wr => ∃ y : Int, x = .int .i64 y ∧ st ≤ y ∧ y ≤ tp ∧ Hid (Below w1.heap.size w1 wr)) (fun x _ => (tp - intOf x).toNat)
  case atStart => exact ⟨st, rfl, Int.le_refl _, hqt, Lib.hid (Below.refl _ _)⟩
  case round =>
    obtain ⟨y, rfl, hy1, hy2, hI⟩ := hrel
    have hr0 := keepB HR0'.out hI.out
    have HR1 := Lib.hid (keepB HR1'.out hI.out)
    have HFr := Lib.hid (HF1.out.below hI.out (Nat.le_refl _))
    obtain ⟨x0, x1, x2, x3, x4, x5, x6⟩ := boxP hr0
    have HR0 := Lib.hid hr0
    clear hr0
    by_cases hso : soP L q y = true
    · have hyt : y = tp := by have := HTR.out y hy1 hso; omega
      subst hyt
      have hA := Lib.hid (HAT.out y wr HFr.out (by omega))
      rw [hso, if_pos rfl, HLW.out] at hA
      clear hso HST
      go_wp2_with fail
      refine hA.out.mono ?_
      rintro e w3 ⟨rfl, hb3⟩
      have hr1 := keepB HR1.out hb3
      have HB3 := Lib.hid (Below.onto (Below.onto hb3 hI.out) HB1.out)
      clear x0 x1 x2 x3 x4 x5 x6
      obtain ⟨x0, x1, x2, x3, x4, x5, x6⟩ := boxP (keepB HR0.out hb3)
      have HR := Lib.hid hr1
      clear hb3 hr1
      go_wp2_with (first
        | ((with_reducible refine store_row (dst := none) 51 (.tmp 4) (.tmp 31) (b0 + 1) _ #[.int .i64 lv, .int .i64 y, .int .i64 (lv + q.wd), .int .i64 (y + q.h)] 51 HR.out ?_ ?_ ?_ ?_ ?_ ?_); rfl; rfl; exact rectRInfoP; rfl; (simp [Value.oneCell']); intro w6 hw6 hg6 hz7; have HW6 := Lib.hid hw6; have HG6 := Lib.hid hg6; clear hw6 hg6))
      have d0 := cell_of_row w6 (b0 + 1) 0 _ _ (0, 0) HW6.out
      have d1 := cell_of_row w6 (b0 + 1) 1 _ _ (0, 0) HW6.out
      have d2 := cell_of_row w6 (b0 + 1) 2 _ _ (0, 0) HW6.out
      have d3 := cell_of_row w6 (b0 + 1) 3 _ _ (0, 0) HW6.out
      refine bodyPost_ret (v := .agg #[.int .i64 lv, .int .i64 y, .int .i64 (lv + q.wd), .int .i64 (y + q.h)]) (by simp [results, Try.results38, go_sem, d0, d1, d2, d3]) rfl ⟨rfl, HB3.out.grown HG6.out (by have := HB3.out.size; omega) (fun k hk => by have := HB0.out; simp at hk; omega)⟩
    · have hso' : soP L q y = false := by simpa using hso
      obtain ⟨hm1, hm2, hm3⟩ := HST.out y hy1 hy2 hso'
      have hA := Lib.hid (HAT.out y wr HFr.out (by omega))
      rw [hso', if_neg (by decide)] at hA
      have hN := Lib.hid (HNX.out y)
      rw [hm1] at hN
      generalize (nxs L y).1 = ny at *
      clear hso hso' hm1
      go_wp2_with fail
      refine hA.out.mono ?_
      rintro e w3 ⟨rfl, hb3⟩
      clear x0 x1 x2 x3 x4 x5 x6
      have HF3 := Lib.hid (HFr.out.below hb3 (Nat.le_refl _))
      have HB3 := Lib.hid (Below.onto hb3 hI.out)
      clear hb3
      go_wp2_with fail
      refine (hN.out w3 HF3.out).mono ?_
      rintro e w4 ⟨rfl, hb4⟩
      have HB4 := Lib.hid (Below.onto hb4 HB3.out)
      clear hb4
      go_wp2_with fail
      go_roundw
      case rel => exact ⟨ny, rfl, by omega, hm3, HB4⟩
      case measure => simp [intOf]; omega
end Go.Proofs.Ytnkbbobdhcloeaa
