/- The document's answer's Band. -/
import Derived.Test.YtecojcdmigmnhaaBn
namespace Go.Proofs.Ytecojcdmigmnhaa
set_option linter.unusedSimpArgs false
set_option linter.unusedVariables false
open Go.RowKit
def rb (L : List Fo) (a b : Int) (i : Nat) : Int × Int := (begins (L.take i) a b).foldl (fun p y => clipP p (bnd L y)) (bnd L a)
theorem rb_step (L : List Fo) (a b : Int) (i : Nat) (hi : i < L.length) : rb L a b (i + 1) = if a < (foAt L i).y0 ∧ (foAt L i).y0 < b then clipP (rb L a b i) (bnd L (foAt L i).y0) else rb L a b i := by
  unfold rb begins
  rw [List.take_succ_eq_append_getElem hi, List.map_append, List.filter_append, List.foldl_append, foAt_eq L i hi]
  by_cases h : a < L[i].y0 ∧ L[i].y0 < b
  · rw [if_pos h]
    simp [h]
  · rw [if_neg h]
    have : ([L[i]].map (·.y0)).filter (fun y => decide (a < y ∧ y < b)) = [] := by simp only [List.map_cons, List.map_nil, List.filter_cons, List.filter_nil]; rw [if_neg (by simpa using h)]
    rw [this]
    rfl
theorem rb_end (L : List Fo) (a b : Int) (h : a < b) : rb L a b L.length = band L a b := by
  unfold rb
  rw [List.take_length]
  exact IsBand.unique (ref_band L a b h) (band_is L a b)
/-- What Band asks of a float. -/
theorem rb_cases (a b y : Int) (p q s : Int × Int) (h : s = if a < y ∧ y < b then clipP p q else p) : (decide (a < y) = false ∧ s = p) ∨ (decide (a < y) = true ∧ decide (y < b) = false ∧ s = p) ∨
    (decide (a < y) = true ∧ decide (y < b) = true ∧ decide (p.1 < q.1) = true ∧ decide (q.2 < p.2) = true ∧ s = (q.1, q.2)) ∨ (decide (a < y) = true ∧ decide (y < b) = true ∧ decide (p.1 < q.1) = true ∧ decide (q.2 < p.2) = false ∧ s = (q.1, p.2)) ∨
    (decide (a < y) = true ∧ decide (y < b) = true ∧ decide (p.1 < q.1) = false ∧ decide (q.2 < p.2) = true ∧ s = (p.1, q.2)) ∨ (decide (a < y) = true ∧ decide (y < b) = true ∧ decide (p.1 < q.1) = false ∧ decide (q.2 < p.2) = false ∧ s = (p.1, p.2)) := by
  by_cases h1 : a < y
  · by_cases h2 : y < b
    · rw [if_pos ⟨h1, h2⟩] at h
      subst h
      unfold clipP
      right; right
      by_cases h3 : p.1 < q.1
      · by_cases h4 : q.2 < p.2
        · left; exact ⟨decide_eq_true h1, decide_eq_true h2, decide_eq_true h3, decide_eq_true h4, by simp only [Prod.mk.injEq]; omega⟩
        · right; left; exact ⟨decide_eq_true h1, decide_eq_true h2, decide_eq_true h3, decide_eq_false h4, by simp only [Prod.mk.injEq]; omega⟩
      · by_cases h4 : q.2 < p.2
        · right; right; left; exact ⟨decide_eq_true h1, decide_eq_true h2, decide_eq_false h3, decide_eq_true h4, by simp only [Prod.mk.injEq]; omega⟩
        · right; right; right; exact ⟨decide_eq_true h1, decide_eq_true h2, decide_eq_false h3, decide_eq_false h4, by simp only [Prod.mk.injEq]; omega⟩
    · rw [if_neg (by omega)] at h
      right; left; exact ⟨decide_eq_true h1, decide_eq_false h2, h⟩
  · rw [if_neg (by omega)] at h
    left; exact ⟨decide_eq_false h1, h⟩
theorem band_none (L : List Fo) (a b : Int) (h : b ≤ a) : band L a b = (-far, far) := by
  unfold band
  rw [show (b - a).toNat = 0 by omega]
  rfl
def RbPost (L : List Fo) (a b : Int) (w : World) (e : Ending) (w' : World) : Prop := e = .returned (.tuple #[.int .i64 (band L a b).1, .int .i64 (band L a b).2]) ∧ Below w.heap.size w w'
def RbInv (L : List Fo) (a b : Int) (w : World) (i : Nat) (p : Int × Int) (wr : World) : Prop := rb L a b i = p ∧ Below w.heap.size w wr
set_option maxRecDepth 20000 in
set_option maxHeartbeats 8000000 in
theorem rband_any (L : List Fo) (v : Value) (a b : Int) (w : World) (h : IsFos w v L) (hn : L.length ≤ maxLen) : Calls Try.prog 87 #[v, .int .i64 a, .int .i64 b] w (RbPost L a b w) := by
  obtain ⟨A, cap0, rfl, hx1, hx2⟩ := id h
  have HA := Lib.hid hx2
  clear hx1 hx2
  have hbd := fun y w h => bounds_any L (.slice A L.length cap0) y w h hn
  unfold maxLen at hn
  unfold BdsPost at hbd
  unfold RbPost
  have HH := Lib.hid h
  by_cases hab : b ≤ a
  · rw [band_none L a b hab]
    have hd : decide (b ≤ a) = true := decide_eq_true hab
    clear hbd h
    go_enter Try.func87, Try.ntmps87
    go_wp2_with fail
    refine bodyPost_ret (v := .tuple #[.int .i64 (-4503599627370496), .int .i64 4503599627370496]) (by simp [results, Try.results87, go_sem]) rfl ⟨rfl, Below.refl _ _⟩
  · have hd : decide (b ≤ a) = false := decide_eq_false hab
    have hre := rb_end L a b (by omega)
    obtain ⟨q, hq⟩ : ∃ q, band L a b = q := ⟨_, rfl⟩
    rw [hq] at hre ⊢
    have HBD := Lib.hid hbd
    have HRE := Lib.hid hre
    clear hbd hre hq hab h
    go_enter Try.func87, Try.ntmps87
    go_wp2_with fail
    refine (HBD.out a w HH.out).mono ?_
    rintro e w1 ⟨rfl, hb1⟩
    have hI0 : RbInv L a b w 0 (bnd L a) w1 := ⟨rfl, hb1⟩
    have HI0 := Lib.hid hI0
    clear hI0 hb1
    generalize bnd L a = pa at *
    go_wp2_with fail
    go_loopw [8, 9, 10] (fun l r x wr => ∃ (i : Nat) (p1 p2 : Int), i ≤ L.length ∧ x = .int .i64 i ∧ l = .int .i64 p1 ∧ r = .int .i64 p2 ∧ Hid (RbInv L a b w i (p1, p2) wr)) (fun _ _ x _ => L.length - (intOf x).toNat)
    case atStart => exact ⟨0, pa.1, pa.2, by omega, rfl, rfl, rfl, HI0⟩
    case round =>
      obtain ⟨i, p1, p2, hi, rfl, rfl, rfl, hI⟩ := hrel
      by_cases hlt : i < L.length
      · obtain ⟨g, o, rfl, hg, hs⟩ := HA.out (by omega)
        have hbs := hI.out.2.size
        have hHr := Lib.hid (HH.out.below hI.out.2 (Nat.le_refl _))
        obtain ⟨u0, u1, u2, u3, u4⟩ := fo_cells (show wr.rangeAt g (o + i * 5) (foC (foAt L i)) from fun j v hv => (hI.out.2.cell (p := ⟨g, o + i * 5 + j, none⟩) hg).trans (hs i hlt j v hv))
        have hstep := rb_step L a b i hlt
        rw [hI.out.1] at hstep
        have hbq := fun w h => HBD.out (foAt L i).y0 w h
        have hnx : ∀ t w', rb L a b (i + 1) = t → Below wr.heap.size wr w' → RbInv L a b w (i + 1) t w' := fun t w' ht hb => ⟨ht, Below.onto hb hI.out.2⟩
        generalize bnd L (foAt L i).y0 = q at *
        have hcs := rb_cases a b (foAt L i).y0 (p1, p2) q _ hstep
        generalize rb L a b (i + 1) = s at *
        have HNX := Lib.hid hnx
        have HBQ := Lib.hid hbq
        have hgl : g < wr.heap.size := by omega
        clear hnx hbq hstep hs hbs hI
        generalize (foAt L i).s = fs at *
        generalize (foAt L i).x0 = f0 at *
        generalize (foAt L i).y0 = f1 at *
        generalize (foAt L i).x1 = f2 at *
        generalize (foAt L i).y1 = f3 at *
        simp only at hcs
        rcases hcs with ⟨d1, e⟩ | ⟨d1, d2, e⟩ | ⟨d1, d2, d3, d4, e⟩ | ⟨d1, d2, d3, d4, e⟩ | ⟨d1, d2, d3, d4, e⟩ | ⟨d1, d2, d3, d4, e⟩
        · subst e
          go_wp2_with fail
          go_roundw
          case rel => exact ⟨i + 1, _, _, by omega, by go_num, rfl, rfl, Lib.hid (HNX.out _ _ rfl (Below.refl _ _))⟩
          case measure => simp [intOf]; omega
        · subst e
          go_wp2_with fail
          go_roundw
          case rel => exact ⟨i + 1, _, _, by omega, by go_num, rfl, rfl, Lib.hid (HNX.out _ _ rfl (Below.refl _ _))⟩
          case measure => simp [intOf]; omega
        all_goals
          subst e
          go_wp2_with fail
          refine (HBQ.out _ hHr.out).mono ?_
          rintro e w5 ⟨rfl, hb5⟩
          have HB5 := Lib.hid hb5
          clear hb5
          go_wp2_with fail
          go_roundw
          case rel => exact ⟨i + 1, _, _, by omega, by go_num, rfl, rfl, Lib.hid (HNX.out _ _ rfl HB5.out)⟩
          case measure => simp [intOf]; omega
      · have hil : i = L.length := by omega
        subst hil
        have hp := hI.out.1
        rw [HRE.out] at hp
        subst hp
        have HB := Lib.hid hI.out.2
        clear hI HRE hi hlt
        go_wp2_with fail
        refine bodyPost_ret (v := .tuple #[.int .i64 p1, .int .i64 p2]) (by simp [results, Try.results87, go_sem]) rfl ⟨rfl, HB.out⟩
end Go.Proofs.Ytecojcdmigmnhaa
