/- Avoid: rect.Of, law12.Of, fits. -/
import Derived.Test.YtnkbbobdhcloeaaSfm
import Derived.Test.YtnkbbobdhcloeaaWt9
import Derived.Test.YtnkbbobdhcloeaaFa
namespace Go.Proofs.Ytnkbbobdhcloeaa
set_option linter.unusedSimpArgs false
set_option linter.unusedVariables false
open Go.RowKit
theorem spanInfo9 : (Try.prog.info? 33).map (·.size) = some 2 := by kernel_rfl
set_option maxRecDepth 20000 in
theorem rof_any (a b c d : Int) (w : World) : Calls Try.prog 44 #[.agg #[.int .i64 a, .int .i64 b], .agg #[.int .i64 c, .int .i64 d]] w fun e w' => e = .returned (.agg #[.int .i64 a, .int .i64 c, .int .i64 b, .int .i64 d]) ∧ Below w.heap.size w w' := by
  go_enter Try.func44, Try.ntmps44
  go_wp2
  exact bodyPost_ret (v := .agg #[.int .i64 a, .int .i64 c, .int .i64 b, .int .i64 d]) (by simp [results, Try.results44, go_sem]) rfl ⟨rfl, by (repeat (first | exact Below.refl _ _ | (refine Below.alloc ?_ (by first | omega | (simp; done) | (simp; omega)) _) | (refine Below.on (by assumption) ?_ (by first | omega | (simp; done) | (simp; omega))) | (refine Below.grown ?_ (by assumption) (by first | omega | (simp; done) | (simp; omega)) (by intro k hk; cases hk)) | refine Below.drew ?_))⟩
set_option maxRecDepth 20000 in
theorem of12_any (q : Wa) (w : World) : Calls Try.prog 19 #[.agg #[.int .i64 q.a, .int .i64 q.b, .int .i64 q.wd, .int .i64 q.h, .int .i64 q.y]] w fun e w' => e = .returned (.agg #[.int .i64 q.a, .int .i64 q.b, .int .i64 q.wd, .int .i64 q.h, .int .i64 q.y]) ∧ Below w.heap.size w w' := by
  generalize q.a = x0
  generalize q.b = x1
  generalize q.wd = x2
  generalize q.h = x3
  generalize q.y = x4
  go_enter Try.func19, Try.ntmps19
  go_wp2
  exact bodyPost_ret (v := .agg #[.int .i64 x0, .int .i64 x1, .int .i64 x2, .int .i64 x3, .int .i64 x4]) (by simp [results, Try.results19, go_sem]) rfl ⟨rfl, by (repeat (first | exact Below.refl _ _ | (refine Below.alloc ?_ (by first | omega | (simp; done) | (simp; omega)) _) | (refine Below.on (by assumption) ?_ (by first | omega | (simp; done) | (simp; omega))) | (refine Below.grown ?_ (by assumption) (by first | omega | (simp; done) | (simp; omega)) (by intro k hk; cases hk)) | refine Below.drew ?_))⟩
/-- The cells of a seeker. -/
def skC (q : Wa) (sp : Nat) (lf : Int) : Array Value := #[.int .i64 q.a, .int .i64 q.b, .int .i64 q.wd, .int .i64 q.h, .int .i64 q.y, .pointer (some ⟨sp, 0, none⟩), .int .i64 lf]
theorem SpaceIs.off {w w' : World} {base sp k : Nat} {L : List Fo} {C : Array Value} {f : Nat × Nat} (h : SpaceIs w base sp L) (hg : w.grownBy w' (some k)) (hk : w.heap[k]? = some (.cells C 80 f)) : SpaceIs w' base sp L := by
  obtain ⟨lp, v, h1, h2, h3, h4⟩ := h
  have hne : ∀ (g : Nat) (D : Array Value) (t : TypeId) (f' : Nat × Nat), t ≠ 80 → w.heap[g]? = some (Obj.cells D t f') → w'.heap[g]? = w.heap[g]? := fun g D t f' ht hh =>
    hg.block g (Array.getElem?_eq_some_iff.1 hh).1 (fun e => by injection e with e; exact type_off hh hk ht e)
  exact ⟨lp, v, (hne sp _ _ _ (by decide) h1).trans h1, h2, h3.same fun g C f hh => hh.elim (hne g C _ f (by decide)) (hne g C _ f (by decide)), own_same h4 fun g C f _ hh => hne g C _ f (by decide) hh⟩
/-- What fits leaves. -/
def FitPost (L : List Fo) (q : Wa) (sp kb : Nat) (y : Int) (w : World) (e : Ending) (w' : World) : Prop :=
  e = .returned (.bool (soW L q y)) ∧ w'.heap[kb]? = some (.cells (skC q sp (leftA L q y)) 80 (0, 0)) ∧ w.grownBy w' (some kb)
theorem soA_cases (wd r1 r2 a b p1 p2 : Int) (s : Bool) (hs : s = decide (wd ≤ r2 - r1 ∨ (b - a < wd ∧ p1 ≤ a ∧ a + wd ≤ p2))) :
    (decide (wd ≤ r2 - r1) = true ∧ s = true) ∨ (decide (wd ≤ r2 - r1) = false ∧
    ((decide (b - a < wd) = false ∧ s = false) ∨ (decide (b - a < wd) = true ∧ decide (p1 ≤ a) = false ∧ s = false) ∨ (decide (b - a < wd) = true ∧ decide (p1 ≤ a) = true ∧ decide (a + wd ≤ p2) = false ∧ s = false) ∨ (decide (b - a < wd) = true ∧ decide (p1 ≤ a) = true ∧ decide (a + wd ≤ p2) = true ∧ s = true))) := by
  subst hs
  by_cases h1 : wd ≤ r2 - r1
  · left; exact ⟨decide_eq_true h1, decide_eq_true (.inl h1)⟩
  · right
    refine ⟨decide_eq_false h1, ?_⟩
    by_cases h2 : b - a < wd
    · right
      by_cases h3 : p1 ≤ a
      · right
        by_cases h4 : a + wd ≤ p2
        · right; exact ⟨decide_eq_true h2, decide_eq_true h3, decide_eq_true h4, decide_eq_true (.inr ⟨h2, h3, h4⟩)⟩
        · left; exact ⟨decide_eq_true h2, decide_eq_true h3, decide_eq_false h4, decide_eq_false (by omega)⟩
      · left; exact ⟨decide_eq_true h2, decide_eq_false h3, decide_eq_false (by omega)⟩
    · left; exact ⟨decide_eq_false h2, decide_eq_false (by omega)⟩
set_option maxRecDepth 20000 in
set_option maxHeartbeats 8000000 in
theorem fits_any (L : List Fo) (q : Wa) (y lf : Int) (base sp kb : Nat) (w : World) (h : SpaceIs w base sp L) (hk : w.heap[kb]? = some (.cells (skC q sp lf) 80 (0, 0))) (hok : SpOk L) (hsm : ∀ f ∈ L, smallF f = true) (hq : okWa q = true) (hy : -4503599627370496 ≤ y ∧ y ≤ 2251799813685248) :
    Calls Try.prog 43 #[.pointer (some ⟨kb, 0, none⟩), .int .i64 y] w (FitPost L q sp kb y w) := by
  obtain ⟨⟨ia, ib, iw, ih, iy⟩, i0⟩ := okWa_at hq
  unfold in48 at ia ib iw ih iy
  have hg := hgh_pos q.h
  have hg2 : hgh q.h ≤ 281474976710656 := by unfold hgh; omega
  have hrw := fun w => srows_any y q.h w (by omega) (by omega)
  have hfr := fun w h => free_any L q.a q.b y (y + hgh q.h) base sp w h hok (by unfold Mid; omega) (by unfold Mid; omega) (by unfold far; omega)
  have hbd := fun w h => bounds10_any L y (y + hgh q.h) base sp w h hok (by unfold Mid; omega) (by unfold Mid; omega) (by unfold far; omega)
  have hed := bnds_edge hsm y q.h
  obtain ⟨sv, hsv⟩ : ∃ s, soW L q y = s := ⟨_, rfl⟩
  have hs1 : sv = decide (q.wd ≤ (freeS L q.a q.b y q.h).2 - (freeS L q.a q.b y q.h).1 ∨ (q.b - q.a < q.wd ∧ (bnds L y q.h).1 ≤ q.a ∧ q.a + q.wd ≤ (bnds L y q.h).2)) := hsv.symm
  unfold SpanPost at hrw hfr hbd
  unfold FitPost leftA
  rw [hsv]
  unfold freeS at hs1 ⊢
  unfold bnds at hed hs1 ⊢
  obtain ⟨yb, hyb⟩ : ∃ b, y + hgh q.h = b := ⟨_, rfl⟩
  rw [hyb] at hfr hbd hed hs1 ⊢
  simp only [hyb] at hrw
  generalize band L y yb = p at *
  obtain ⟨p1, p2⟩ := p
  simp only at hfr hbd hed hs1 ⊢
  obtain ⟨r1, hr1⟩ : ∃ r, max q.a p1 = r := ⟨_, rfl⟩
  obtain ⟨r2, hr2⟩ : ∃ r, min q.b p2 = r := ⟨_, rfl⟩
  rw [hr1, hr2] at hfr hs1
  rw [hr1]
  unfold far at hed
  have mr1 : Mid r1 := by unfold Mid; omega
  have mr2 : Mid r2 := by unfold Mid; omega
  have ma : Mid q.a := by unfold Mid; omega
  have mb : Mid q.b := by unfold Mid; omega
  have hl1 := fun w => slen_any r1 r2 w mr1 mr2
  have hl2 := fun w => slen_any q.a q.b w ma mb
  have hcs := soA_cases q.wd r1 r2 q.a q.b p1 p2 sv hs1
  have hw5 : -9007199254740992 ≤ q.a + q.wd ∧ q.a + q.wd ≤ 9007199254740992 := by omega
  have hkl := (Array.getElem?_eq_some_iff.1 hk).1
  have c0 : w.cell? ⟨kb, 0, none⟩ = some (.int .i64 q.a) := cell_of_row w kb 0 _ _ (0, 0) hk
  have c3 : w.cell? ⟨kb, 3, none⟩ = some (.int .i64 q.h) := cell_of_row w kb 3 _ _ (0, 0) hk
  have HRW := Lib.hid hrw
  have HFR := Lib.hid hfr
  have HBD := Lib.hid hbd
  have HL1 := Lib.hid hl1
  have HL2 := Lib.hid hl2
  have HCS := Lib.hid hcs
  have HKK := Lib.hid hk
  have HH := Lib.hid h
  clear hrw hfr hbd hl1 hl2 hcs hk h hs1 hsv hr1 hr2 hyb hed mr1 mr2 ma mb hg hg2 hok hsm hq iy
  go_enter Try.func43, Try.ntmps43
  go_wp2_with fail
  refine (HRW.out _).mono ?_
  rintro e w1 ⟨rfl, hb1⟩
  have HB1 := Lib.hid hb1
  clear hb1
  go_wp2_with (first
    | ((with_reducible refine store_new (dst := none) 33 (.tmp 5) (.tmp 14) w1 _ #[.int .i64 y, .int .i64 yb] 33 rfl ?_ ?_ ?_ ?_ ?_ ?_); rfl; rfl; exact spanInfo9; rfl; (simp [Value.oneCell'])))
  have hnew : Below w1.heap.size w1 (w1.alloc (.cells #[.int .i64 y, .int .i64 yb] 33)) := (Below.refl w1.heap.size w1).alloc (Nat.le_refl _) _
  have hb2 := Below.onto hnew HB1.out
  have hv2 := heap_alloc_new w1 (.cells #[.int .i64 y, .int .i64 yb] 33)
  clear hnew
  generalize w1.alloc (.cells #[.int .i64 y, .int .i64 yb] 33) = w2 at *
  obtain ⟨bR, hbR⟩ : ∃ b, w1.heap.size = b := ⟨_, rfl⟩
  rw [hbR] at hv2 ⊢
  have hRl : bR < w2.heap.size := (Array.getElem?_eq_some_iff.1 hv2).1
  have hwR : w.heap.size ≤ bR := by have := HB1.out.size; omega
  have hk2 := (hb2.block kb hkl).trans HKK.out
  have HK : Hid (∀ w' : World, Below w2.heap.size w2 w' → (Below w2.heap.size w2 w' ∧ w'.cell? ⟨kb, 5, none⟩ = some (.pointer (some ⟨sp, 0, none⟩)) ∧ w'.cell? ⟨kb, 0, none⟩ = some (.int .i64 q.a) ∧ w'.cell? ⟨kb, 1, none⟩ = some (.int .i64 q.b) ∧ w'.cell? ⟨bR, 0, none⟩ = some (.int .i64 y) ∧ w'.cell? ⟨bR, 1, none⟩ = some (.int .i64 yb))) := fun w' e =>
    have h1 := (e.block kb (Array.getElem?_eq_some_iff.1 hk2).1).trans hk2
    have h2 := (e.block bR hRl).trans hv2
    ⟨e, cell_of_row w' kb 5 _ _ (0, 0) h1, cell_of_row w' kb 0 _ _ (0, 0) h1, cell_of_row w' kb 1 _ _ (0, 0) h1, cell_of_row w' bR 0 _ _ (0, 0) h2, cell_of_row w' bR 1 _ _ (0, 0) h2⟩
  have HS2 := Lib.hid (HH.out.below hb2 (Nat.le_refl _))
  have HB2 := Lib.hid hb2
  have HV2 := Lib.hid hv2
  have HK2 := Lib.hid hk2
  clear hb2 hv2 hk2 hbR c0 c3 HB1
  (try simp only [Act.put])
  go_cut [6] (fun p6 wd => ∃ b6 : Nat, p6 = .pointer (some ⟨b6, 0, none⟩) ∧ wd.heap[b6]? = some (.cells #[.int .i64 r1, .int .i64 r2] 33 (0, 0)) ∧ Below w2.heap.size w2 wd ∧ w2.heap.size ≤ b6)
  case first =>
    go_region_held3 (fun w' => Below w2.heap.size w2 w' ∧ w'.cell? ⟨kb, 5, none⟩ = some (.pointer (some ⟨sp, 0, none⟩)) ∧ w'.cell? ⟨kb, 0, none⟩ = some (.int .i64 q.a) ∧ w'.cell? ⟨kb, 1, none⟩ = some (.int .i64 q.b) ∧ w'.cell? ⟨bR, 0, none⟩ = some (.int .i64 y) ∧ w'.cell? ⟨bR, 1, none⟩ = some (.int .i64 yb))
      (first | exact HK.out _ (Below.refl _ _) | exact HK.out _ ((Below.refl _ _).drew) | exact HK.out _ HE1.out | (refine HK.out _ ?_; (repeat (first | exact HE1.out | exact Below.refl _ _ | (refine Below.alloc ?_ (by first | omega | (simp; done) | (simp; omega)) _) | (refine Below.drew ?_) | (refine Below.setCell ?_ (by first | omega | (simp; done) | (simp; omega)) _)))))
      (first
        | ((with_reducible refine (HFR.out _ (HS2.out.below (And.left (by assumption)) (Nat.le_refl _))).mono ?_); rintro e wx1 ⟨rfl, hbx⟩; have HBx := Lib.hid hbx; have HE1 := Lib.hid (Below.onto hbx (And.left (by assumption))); have he1 := HE1.out.size; have hzx1 := hbx.size; obtain ⟨hcx1, hfx1⟩ := bcell hbx; (try simp [Nat.add_one_le_iff] at hzx1); clear hbx))
    all_goals
      rename_i hH
      have HF := Lib.hid hH.1
      clear hH
      go_wp2_with fail
      go_meet
      case rel =>
        first
          | exact ⟨_, rfl, heap_alloc_new wx1 _, HF.out, he1⟩
          | exact ⟨_, rfl, heap_setCell_same _ _ 1 _ _ _ (heap_setCell_same wx1 _ 0 _ _ _ ((HBx.out.block w2.heap.size (by simp)).trans (heap_alloc_new w2 _))), HF.out, Nat.le_refl _⟩
  obtain ⟨b6, rfl, hv6, hb6, hl6⟩ := hcut
  have hne6 : kb ≠ b6 := by have := (Array.getElem?_eq_some_iff.1 HK2.out).1; omega
  have hkc := (hb6.block kb (Array.getElem?_eq_some_iff.1 HK2.out).1).trans HK2.out
  have u0 : wc.cell? ⟨b6, 0, none⟩ = some (.int .i64 r1) := cell_of_row wc b6 0 _ _ (0, 0) hv6
  have k6 : wc.cell? ⟨kb, 6, none⟩ = some (.int .i64 lf) := cell_of_row wc kb 6 _ _ (0, 0) hkc
  have f6 := frozen_of_row wc kb 6 _ _ hkc
  have hk7 : (wc.setCell ⟨kb, 6, none⟩ (.int .i64 r1)).heap[kb]? = some (.cells (skC q sp r1) 80 (0, 0)) := heap_setCell_same wc kb 6 _ _ _ hkc
  have hg7 : wc.grownBy (wc.setCell ⟨kb, 6, none⟩ (.int .i64 r1)) (some kb) := grown_setCells kb [.int .i64 r1] 6 wc
  have hv7 : (wc.setCell ⟨kb, 6, none⟩ (.int .i64 r1)).heap[b6]? = _ := (Below.heap_setCell _ _ _ _ (Ne.symm hne6)).trans hv6
  have hne5 : bR ≠ kb := by omega
  have hR7 : (wc.setCell ⟨kb, 6, none⟩ (.int .i64 r1)).heap[bR]? = _ := (Below.heap_setCell _ _ _ _ hne5).trans ((hb6.block bR hRl).trans HV2.out)
  have HG7 := Lib.hid (show w.grownBy (wc.setCell ⟨kb, 6, none⟩ (.int .i64 r1)) (some kb) from grown_trans (grown_of_below (HB2.out.trans (hb6.mono HB2.out.size)) _) hg7)
  have HS7 := Lib.hid ((HS2.out.below hb6 (Nat.le_refl _)).off hg7 hkc)
  have HK7 := Lib.hid hk7
  have HV7 := Lib.hid hv7
  have HR7 := Lib.hid hR7
  clear hv6 hkc hk7 hg7 hv7 hR7 hb6
  go_wp2_with fail
  generalize wc.setCell ⟨kb, 6, none⟩ (.int .i64 r1) = w7 at *
  clear u0 k6 f6 HK HS2 HV2 HK2
  have hk7l : kb < w7.heap.size := (Array.getElem?_eq_some_iff.1 HK7.out).1
  have hb7l : b6 < w7.heap.size := (Array.getElem?_eq_some_iff.1 HV7.out).1
  have c0 : w7.cell? ⟨kb, 0, none⟩ = some (.int .i64 q.a) := cell_of_row w7 kb 0 _ _ (0, 0) HK7.out
  have c1 : w7.cell? ⟨kb, 1, none⟩ = some (.int .i64 q.b) := cell_of_row w7 kb 1 _ _ (0, 0) HK7.out
  have c2 : w7.cell? ⟨kb, 2, none⟩ = some (.int .i64 q.wd) := cell_of_row w7 kb 2 _ _ (0, 0) HK7.out
  have e0 : w7.cell? ⟨b6, 0, none⟩ = some (.int .i64 r1) := cell_of_row w7 b6 0 _ _ (0, 0) HV7.out
  have e1 : w7.cell? ⟨b6, 1, none⟩ = some (.int .i64 r2) := cell_of_row w7 b6 1 _ _ (0, 0) HV7.out
  have HKa : Hid (∀ w' : World, Below w7.heap.size w7 w' → (Below w7.heap.size w7 w' ∧ w'.cell? ⟨kb, 2, none⟩ = some (.int .i64 q.wd) ∧ w'.cell? ⟨b6, 0, none⟩ = some (.int .i64 r1) ∧ w'.cell? ⟨b6, 1, none⟩ = some (.int .i64 r2))) := fun w' e =>
    ⟨e, (e.cell (p := ⟨kb, 2, none⟩) hk7l).trans c2, (e.cell (p := ⟨b6, 0, none⟩) hb7l).trans e0, (e.cell (p := ⟨b6, 1, none⟩) hb7l).trans e1⟩
  have hfin : ∀ w8, Below w7.heap.size w7 w8 → w8.heap[kb]? = some (.cells (skC q sp r1) 80 (0, 0)) ∧ w.grownBy w8 (some kb) := fun w8 hb => ⟨(hb.block kb hk7l).trans HK7.out, grown_trans HG7.out (grown_of_below hb _)⟩
  have HFIN := Lib.hid hfin
  clear hfin c0 c1 c2 e0 e1
  rcases HCS.out with ⟨d1, rfl⟩ | ⟨d1, hcs⟩
  · clear HCS
    go_region_held3 (fun w' => Below w7.heap.size w7 w' ∧ w'.cell? ⟨kb, 2, none⟩ = some (.int .i64 q.wd) ∧ w'.cell? ⟨b6, 0, none⟩ = some (.int .i64 r1) ∧ w'.cell? ⟨b6, 1, none⟩ = some (.int .i64 r2)) (first | exact HKa.out _ (Below.refl _ _) | exact HKa.out _ ((Below.refl _ _).drew) | exact HKa.out _ HE1.out)
      (first | ((with_reducible refine (HL1.out _).mono ?_); rintro e wx1 ⟨rfl, hbx⟩; have HE1 := Lib.hid (Below.onto hbx (And.left (by assumption))); clear hbx))
    rename_i hH
    clear hH
    go_wp2_with fail
    go_ret
    exact ⟨rfl, (HFIN.out _ HE1.out).1, (HFIN.out _ HE1.out).2⟩
  · go_region_held3 (fun w' => Below w7.heap.size w7 w' ∧ w'.cell? ⟨kb, 2, none⟩ = some (.int .i64 q.wd) ∧ w'.cell? ⟨b6, 0, none⟩ = some (.int .i64 r1) ∧ w'.cell? ⟨b6, 1, none⟩ = some (.int .i64 r2)) (first | exact HKa.out _ (Below.refl _ _) | exact HKa.out _ ((Below.refl _ _).drew) | exact HKa.out _ HE1.out)
      (first | ((with_reducible refine (HL1.out _).mono ?_); rintro e wx1 ⟨rfl, hbx⟩; have HE1 := Lib.hid (Below.onto hbx (And.left (by assumption))); clear hbx))
    rename_i hH
    clear hH
    go_wp2_with fail
    have hk8 := (HE1.out.block kb hk7l).trans HK7.out
    have hr8 := (HE1.out.block bR (Array.getElem?_eq_some_iff.1 HR7.out).1).trans HR7.out
    have HS8 := Lib.hid (HS7.out.below HE1.out (Nat.le_refl _))
    have HF8 := Lib.hid (fun w9 (hb : Below wx1.heap.size wx1 w9) => HFIN.out w9 (Below.onto hb HE1.out))
    clear HKa HFIN HS7 HK7 HR7 HV7 HG7 hb7l
    obtain ⟨w8, hw8⟩ : ∃ w8, wx1 = w8 := ⟨_, rfl⟩
    subst hw8
    have hk8l : kb < wx1.heap.size := (Array.getElem?_eq_some_iff.1 hk8).1
    have hR8l : bR < wx1.heap.size := (Array.getElem?_eq_some_iff.1 hr8).1
    have HKb : Hid (∀ w' : World, Below wx1.heap.size wx1 w' → (Below wx1.heap.size wx1 w' ∧ w'.cell? ⟨kb, 5, none⟩ = some (.pointer (some ⟨sp, 0, none⟩)) ∧ w'.cell? ⟨bR, 0, none⟩ = some (.int .i64 y) ∧ w'.cell? ⟨bR, 1, none⟩ = some (.int .i64 yb))) := fun w' e =>
      have h1 := (e.block kb hk8l).trans hk8
      have h2 := (e.block bR hR8l).trans hr8
      ⟨e, cell_of_row w' kb 5 _ _ (0, 0) h1, cell_of_row w' bR 0 _ _ (0, 0) h2, cell_of_row w' bR 1 _ _ (0, 0) h2⟩
    have HK8 := Lib.hid hk8
    clear hk8 hr8 HE1
    go_cut [7] (fun p7 wd => ∃ b7 : Nat, p7 = .pointer (some ⟨b7, 0, none⟩) ∧ wd.heap[b7]? = some (.cells #[.int .i64 p1, .int .i64 p2] 33 (0, 0)) ∧ Below wx1.heap.size wx1 wd)
    case first =>
      go_region_held3 (fun w' => Below wx1.heap.size wx1 w' ∧ w'.cell? ⟨kb, 5, none⟩ = some (.pointer (some ⟨sp, 0, none⟩)) ∧ w'.cell? ⟨bR, 0, none⟩ = some (.int .i64 y) ∧ w'.cell? ⟨bR, 1, none⟩ = some (.int .i64 yb))
        (first | exact HKb.out _ (Below.refl _ _) | exact HKb.out _ ((Below.refl _ _).drew) | exact HKb.out _ HE2.out | (refine HKb.out _ ?_; (repeat (first | exact HE2.out | exact Below.refl _ _ | (refine Below.alloc ?_ (by first | omega | (simp; done) | (simp; omega)) _) | (refine Below.drew ?_) | (refine Below.setCell ?_ (by first | omega | (simp; done) | (simp; omega)) _)))))
        (first
          | ((with_reducible refine (HBD.out _ (HS8.out.below (And.left (by assumption)) (Nat.le_refl _))).mono ?_); rintro e wx2 ⟨rfl, hbx⟩; have HBx := Lib.hid hbx; have HE2 := Lib.hid (Below.onto hbx (And.left (by assumption))); have he2 := HE2.out.size; have hzx2 := hbx.size; obtain ⟨hcx2, hfx2⟩ := bcell hbx; (try simp [Nat.add_one_le_iff] at hzx2); clear hbx))
      all_goals
        rename_i hH
        have HF := Lib.hid hH.1
        clear hH
        go_wp2_with fail
        go_meet
        case rel =>
          first
            | exact ⟨_, rfl, heap_alloc_new wx2 _, HF.out⟩
            | exact ⟨_, rfl, heap_setCell_same _ _ 1 _ _ _ (heap_setCell_same wx2 _ 0 _ _ _ ((HBx.out.block wx1.heap.size (by simp)).trans (heap_alloc_new wx1 _))), HF.out⟩
    obtain ⟨b7, rfl, hv7, hb7⟩ := hcut
    have hk9 := (hb7.block kb hk8l).trans HK8.out
    have hk9l : kb < wc.heap.size := (Array.getElem?_eq_some_iff.1 hk9).1
    have hb9l : b7 < wc.heap.size := (Array.getElem?_eq_some_iff.1 hv7).1
    have c0 : wc.cell? ⟨kb, 0, none⟩ = some (.int .i64 q.a) := cell_of_row wc kb 0 _ _ (0, 0) hk9
    have c1 : wc.cell? ⟨kb, 1, none⟩ = some (.int .i64 q.b) := cell_of_row wc kb 1 _ _ (0, 0) hk9
    have c2 : wc.cell? ⟨kb, 2, none⟩ = some (.int .i64 q.wd) := cell_of_row wc kb 2 _ _ (0, 0) hk9
    have e0 : wc.cell? ⟨b7, 0, none⟩ = some (.int .i64 p1) := cell_of_row wc b7 0 _ _ (0, 0) hv7
    have e1 : wc.cell? ⟨b7, 1, none⟩ = some (.int .i64 p2) := cell_of_row wc b7 1 _ _ (0, 0) hv7
    have HB9 := Lib.hid hb7
    have HW1 := Lib.hid (show IntKind.i64.wrap (q.a + q.wd) = q.a + q.wd by rw [IntKind.wrap_i64]; omega)
    clear hv7 hk9 hb7 HKb HK8 HS8 HCS hw5 hne5 hne6 hl6 hwR
    have HKc : Hid (∀ w' : World, Below wc.heap.size wc w' → (Below wc.heap.size wc w' ∧ w'.cell? ⟨kb, 0, none⟩ = some (.int .i64 q.a) ∧ w'.cell? ⟨kb, 1, none⟩ = some (.int .i64 q.b) ∧ w'.cell? ⟨kb, 2, none⟩ = some (.int .i64 q.wd) ∧ w'.cell? ⟨b7, 0, none⟩ = some (.int .i64 p1) ∧ w'.cell? ⟨b7, 1, none⟩ = some (.int .i64 p2))) := fun w' e =>
      ⟨e, (e.cell (p := ⟨kb, 0, none⟩) hk9l).trans c0, (e.cell (p := ⟨kb, 1, none⟩) hk9l).trans c1, (e.cell (p := ⟨kb, 2, none⟩) hk9l).trans c2, (e.cell (p := ⟨b7, 0, none⟩) hb9l).trans e0, (e.cell (p := ⟨b7, 1, none⟩) hb9l).trans e1⟩
    clear c0 c1 c2 e0 e1
    go_wp2_with fail
    rcases hcs with ⟨d2, rfl⟩ | ⟨d2, d3, rfl⟩ | ⟨d2, d3, d4, rfl⟩ | ⟨d2, d3, d4, rfl⟩
    /- GENFITS -/
    · refine wp_region_held_drew (S := (fun w' => Below wc.heap.size wc w' ∧ w'.cell? ⟨kb, 0, none⟩ = some (.int .i64 q.a) ∧ w'.cell? ⟨kb, 1, none⟩ = some (.int .i64 q.b) ∧ w'.cell? ⟨kb, 2, none⟩ = some (.int .i64 q.wd) ∧ w'.cell? ⟨b7, 0, none⟩ = some (.int .i64 p1) ∧ w'.cell? ⟨b7, 1, none⟩ = some (.int .i64 p2))) (by kernel_rfl) (HKc.out _ ((Below.refl _ _).drew)) (fun hHeld => ?_)
      refine wpAnyH_take (i := 0) (v := ?_) rfl (by kernel_rfl) (by kernel_rfl) (by kernel_rfl) (fun _ _ _ h => h) (Or.inl ⟨by rfl, ?_⟩) (by assumption) ?_
      rotate_left
      focus ((intro wS hSw; (try dsimp only at hSw); go_simp); (try (with_reducible rfl)))
      simp only [Act.put, List.getElem_toArray, List.getElem_cons_zero, List.getElem_cons_succ, List.setIfInBounds_toArray, List.set_cons_zero, List.set_cons_succ]
      refine wpAnyH_take (i := 1) (v := ?_) rfl (by kernel_rfl) (by kernel_rfl) (by kernel_rfl) (fun _ _ _ h => h) (Or.inl ⟨by rfl, ?_⟩) (by assumption) ?_
      rotate_left
      focus ((intro wS hSw; (try dsimp only at hSw); go_simp); (try (with_reducible rfl)))
      simp only [Act.put, List.getElem_toArray, List.getElem_cons_zero, List.getElem_cons_succ, List.setIfInBounds_toArray, List.set_cons_zero, List.set_cons_succ]
      refine wpAnyH_take (i := 2) (v := ?_) rfl (by kernel_rfl) (by kernel_rfl) (by kernel_rfl) (fun _ _ _ h => h) (Or.inl ⟨by rfl, ?_⟩) (by assumption) ?_
      rotate_left
      focus ((intro wS hSw; (try dsimp only at hSw); go_simp); (try (with_reducible rfl)))
      simp only [Act.put, List.getElem_toArray, List.getElem_cons_zero, List.getElem_cons_succ, List.setIfInBounds_toArray, List.set_cons_zero, List.set_cons_succ]
      refine wpAnyH_take (i := 3) (v := ?_) rfl (by kernel_rfl) (by kernel_rfl) (by kernel_rfl) (fun _ _ _ h => h) (Or.inl ⟨by rfl, ?_⟩) (by assumption) ?_
      rotate_left
      focus ((intro wS hSw; (try dsimp only at hSw); go_simp); (try (with_reducible rfl)))
      simp only [Act.put, List.getElem_toArray, List.getElem_cons_zero, List.getElem_cons_succ, List.setIfInBounds_toArray, List.set_cons_zero, List.set_cons_succ]
      refine wpAnyH_take (i := 4) (v := ?_) rfl (by kernel_rfl) (by kernel_rfl) (by kernel_rfl) (fun _ _ _ h => h) (Or.inl ⟨by rfl, ?_⟩) (by assumption) ?_
      rotate_left
      focus ((intro wS hSw; (try dsimp only at hSw); go_simp); (try (with_reducible rfl)))
      simp only [Act.put, List.getElem_toArray, List.getElem_cons_zero, List.getElem_cons_succ, List.setIfInBounds_toArray, List.set_cons_zero, List.set_cons_succ]
      refine wpAnyH_take (i := 5) (v := ?_) rfl (by kernel_rfl) (by kernel_rfl) (by kernel_rfl) (fun _ _ _ h => h) (Or.inl ⟨by rfl, ?_⟩) (by assumption) ?_
      rotate_left
      focus ((intro wS hSw; (try dsimp only at hSw); go_simp); (try (with_reducible rfl)))
      simp only [Act.put, List.getElem_toArray, List.getElem_cons_zero, List.getElem_cons_succ, List.setIfInBounds_toArray, List.set_cons_zero, List.set_cons_succ]
      refine wpAnyH_take (i := 6) (v := ?_) rfl (by kernel_rfl) (by kernel_rfl) (by kernel_rfl) (fun _ _ _ h => h) (Or.inl ⟨by rfl, ?_⟩) (by assumption) ?_
      rotate_left
      focus ((intro wS hSw; (try dsimp only at hSw); go_simp); (try (with_reducible rfl)))
      simp only [Act.put, List.getElem_toArray, List.getElem_cons_zero, List.getElem_cons_succ, List.setIfInBounds_toArray, List.set_cons_zero, List.set_cons_succ]
      refine wpAnyH_take (i := 7) (v := ?_) rfl (by kernel_rfl) (by kernel_rfl) (by kernel_rfl) (fun _ _ _ h => h) (Or.inl ⟨by rfl, ?_⟩) (by assumption) ?_
      rotate_left
      focus ((intro wS hSw; (try dsimp only at hSw); go_simp); (try (with_reducible rfl)))
      simp only [Act.put, List.getElem_toArray, List.getElem_cons_zero, List.getElem_cons_succ, List.setIfInBounds_toArray, List.set_cons_zero, List.set_cons_succ]
      refine wpAnyH_take (i := 8) (v := ?_) rfl (by kernel_rfl) (by kernel_rfl) (by kernel_rfl) (fun _ _ _ h => h) (Or.inl ⟨by rfl, ?_⟩) (by assumption) ?_
      rotate_left
      focus ((intro wS hSw; (try dsimp only at hSw); go_simp); (try (with_reducible rfl)))
      simp only [Act.put, List.getElem_toArray, List.getElem_cons_zero, List.getElem_cons_succ, List.setIfInBounds_toArray, List.set_cons_zero, List.set_cons_succ]
      refine wpAnyH_take (i := 9) (v := ?_) rfl (by kernel_rfl) (by kernel_rfl) (by kernel_rfl) (fun _ _ _ h => h) (Or.inl ⟨by rfl, ?_⟩) (by assumption) ?_
      rotate_left
      focus ((intro wS hSw; (try dsimp only at hSw); go_simp); (try (with_reducible rfl)))
      simp only [Act.put, List.getElem_toArray, List.getElem_cons_zero, List.getElem_cons_succ, List.setIfInBounds_toArray, List.set_cons_zero, List.set_cons_succ]
      refine wpAnyH_ready (rs := [10]) (by kernel_rfl) (by simp) ?_
      refine AllReadyH.cons rfl (fun K hK => ?_) AllReadyH.nil
      go_simp
      refine (HL2.out _).mono ?_
      rintro e wx3 ⟨rfl, hbx⟩
      have HE3 := Lib.hid (show Below wc.heap.size wc wx3 from Below.drewL hbx)
      clear hbx
      refine hK.out _ _ (HKc.out _ HE3.out) (fun hHeld => ?_)
      clear hK K
      (try simp only [Act.put, List.getElem_toArray, List.getElem_cons_zero, List.getElem_cons_succ, List.setIfInBounds_toArray, List.set_cons_zero, List.set_cons_succ])
      refine wpAnyH_take (i := 11) (v := ?_) rfl (by kernel_rfl) (by kernel_rfl) (by kernel_rfl) (fun _ _ _ h => h) (Or.inl ⟨by rfl, ?_⟩) (by assumption) ?_
      rotate_left
      focus ((intro wS hSw; (try dsimp only at hSw); go_simp); (try (with_reducible rfl)))
      simp only [Act.put, List.getElem_toArray, List.getElem_cons_zero, List.getElem_cons_succ, List.setIfInBounds_toArray, List.set_cons_zero, List.set_cons_succ]
      refine wpAnyH_take (i := 12) (v := ?_) rfl (by kernel_rfl) (by kernel_rfl) (by kernel_rfl) (fun _ _ _ h => h) (Or.inl ⟨by rfl, ?_⟩) (by assumption) ?_
      rotate_left
      focus ((intro wS hSw; (try dsimp only at hSw); go_simp); (try (with_reducible rfl)))
      simp only [Act.put, List.getElem_toArray, List.getElem_cons_zero, List.getElem_cons_succ, List.setIfInBounds_toArray, List.set_cons_zero, List.set_cons_succ]
      refine wpAnyH_take (i := 13) (v := undef) rfl (by kernel_rfl) (by kernel_rfl) (by kernel_rfl) (fun _ _ _ h => h) (Or.inr ⟨by rfl, rfl⟩) (by assumption) ?_
      simp only [Act.put, List.getElem_toArray, List.getElem_cons_zero, List.getElem_cons_succ, List.setIfInBounds_toArray, List.set_cons_zero, List.set_cons_succ]
      refine wpAnyH_take (i := 14) (v := undef) rfl (by kernel_rfl) (by kernel_rfl) (by kernel_rfl) (fun _ _ _ h => h) (Or.inr ⟨by rfl, rfl⟩) (by assumption) ?_
      simp only [Act.put, List.getElem_toArray, List.getElem_cons_zero, List.getElem_cons_succ, List.setIfInBounds_toArray, List.set_cons_zero, List.set_cons_succ]
      refine wpAnyH_take (i := 15) (v := undef) rfl (by kernel_rfl) (by kernel_rfl) (by kernel_rfl) (fun _ _ _ h => h) (Or.inr ⟨by rfl, rfl⟩) (by assumption) ?_
      simp only [Act.put, List.getElem_toArray, List.getElem_cons_zero, List.getElem_cons_succ, List.setIfInBounds_toArray, List.set_cons_zero, List.set_cons_succ]
      refine wpAnyH_take (i := 16) (v := undef) rfl (by kernel_rfl) (by kernel_rfl) (by kernel_rfl) (fun _ _ _ h => h) (Or.inr ⟨by rfl, rfl⟩) (by assumption) ?_
      simp only [Act.put, List.getElem_toArray, List.getElem_cons_zero, List.getElem_cons_succ, List.setIfInBounds_toArray, List.set_cons_zero, List.set_cons_succ]
      refine wpAnyH_take (i := 17) (v := undef) rfl (by kernel_rfl) (by kernel_rfl) (by kernel_rfl) (fun _ _ _ h => h) (Or.inr ⟨by rfl, rfl⟩) (by assumption) ?_
      simp only [Act.put, List.getElem_toArray, List.getElem_cons_zero, List.getElem_cons_succ, List.setIfInBounds_toArray, List.set_cons_zero, List.set_cons_succ]
      refine wpAnyH_take (i := 18) (v := undef) rfl (by kernel_rfl) (by kernel_rfl) (by kernel_rfl) (fun _ _ _ h => h) (Or.inr ⟨by rfl, rfl⟩) (by assumption) ?_
      simp only [Act.put, List.getElem_toArray, List.getElem_cons_zero, List.getElem_cons_succ, List.setIfInBounds_toArray, List.set_cons_zero, List.set_cons_succ]
      refine wpAnyH_take (i := 19) (v := undef) rfl (by kernel_rfl) (by kernel_rfl) (by kernel_rfl) (fun _ _ _ h => h) (Or.inr ⟨by rfl, rfl⟩) (by assumption) ?_
      simp only [Act.put, List.getElem_toArray, List.getElem_cons_zero, List.getElem_cons_succ, List.setIfInBounds_toArray, List.set_cons_zero, List.set_cons_succ]
      refine wpAnyH_take (i := 20) (v := undef) rfl (by kernel_rfl) (by kernel_rfl) (by kernel_rfl) (fun _ _ _ h => h) (Or.inr ⟨by rfl, rfl⟩) (by assumption) ?_
      simp only [Act.put, List.getElem_toArray, List.getElem_cons_zero, List.getElem_cons_succ, List.setIfInBounds_toArray, List.set_cons_zero, List.set_cons_succ]
      refine wpAnyH_take (i := 21) (v := undef) rfl (by kernel_rfl) (by kernel_rfl) (by kernel_rfl) (fun _ _ _ h => h) (Or.inr ⟨by rfl, rfl⟩) (by assumption) ?_
      simp only [Act.put, List.getElem_toArray, List.getElem_cons_zero, List.getElem_cons_succ, List.setIfInBounds_toArray, List.set_cons_zero, List.set_cons_succ]
      refine wpAnyH_take (i := 22) (v := ?_) rfl (by kernel_rfl) (by kernel_rfl) (by kernel_rfl) (fun _ _ _ h => h) (Or.inl ⟨by rfl, ?_⟩) (by assumption) ?_
      rotate_left
      focus ((intro wS hSw; (try dsimp only at hSw); go_simp); (try (with_reducible rfl)))
      simp only [Act.put, List.getElem_toArray, List.getElem_cons_zero, List.getElem_cons_succ, List.setIfInBounds_toArray, List.set_cons_zero, List.set_cons_succ]
      refine wpAnyH_take (i := 23) (v := ?_) rfl (by kernel_rfl) (by kernel_rfl) (by kernel_rfl) (fun _ _ _ h => h) (Or.inl ⟨by rfl, ?_⟩) (by assumption) ?_
      rotate_left
      focus ((intro wS hSw; (try dsimp only at hSw); go_simp); (try (with_reducible rfl)))
      simp only [Act.put, List.getElem_toArray, List.getElem_cons_zero, List.getElem_cons_succ, List.setIfInBounds_toArray, List.set_cons_zero, List.set_cons_succ]
      refine wpAnyH_take (i := 24) (v := undef) rfl (by kernel_rfl) (by kernel_rfl) (by kernel_rfl) (fun _ _ _ h => h) (Or.inr ⟨by rfl, rfl⟩) (by assumption) ?_
      simp only [Act.put, List.getElem_toArray, List.getElem_cons_zero, List.getElem_cons_succ, List.setIfInBounds_toArray, List.set_cons_zero, List.set_cons_succ]
      refine wpAnyH_take (i := 25) (v := undef) rfl (by kernel_rfl) (by kernel_rfl) (by kernel_rfl) (fun _ _ _ h => h) (Or.inr ⟨by rfl, rfl⟩) (by assumption) ?_
      simp only [Act.put, List.getElem_toArray, List.getElem_cons_zero, List.getElem_cons_succ, List.setIfInBounds_toArray, List.set_cons_zero, List.set_cons_succ]
      refine wpAnyH_take (i := 26) (v := undef) rfl (by kernel_rfl) (by kernel_rfl) (by kernel_rfl) (fun _ _ _ h => h) (Or.inr ⟨by rfl, rfl⟩) (by assumption) ?_
      simp only [Act.put, List.getElem_toArray, List.getElem_cons_zero, List.getElem_cons_succ, List.setIfInBounds_toArray, List.set_cons_zero, List.set_cons_succ]
      refine wpAnyH_take (i := 27) (v := undef) rfl (by kernel_rfl) (by kernel_rfl) (by kernel_rfl) (fun _ _ _ h => h) (Or.inr ⟨by rfl, rfl⟩) (by assumption) ?_
      simp only [Act.put, List.getElem_toArray, List.getElem_cons_zero, List.getElem_cons_succ, List.setIfInBounds_toArray, List.set_cons_zero, List.set_cons_succ]
      refine wpAnyH_take (i := 28) (v := undef) rfl (by kernel_rfl) (by kernel_rfl) (by kernel_rfl) (fun _ _ _ h => h) (Or.inr ⟨by rfl, rfl⟩) (by assumption) ?_
      simp only [Act.put, List.getElem_toArray, List.getElem_cons_zero, List.getElem_cons_succ, List.setIfInBounds_toArray, List.set_cons_zero, List.set_cons_succ]
      refine wpAnyH_take (i := 29) (v := undef) rfl (by kernel_rfl) (by kernel_rfl) (by kernel_rfl) (fun _ _ _ h => h) (Or.inr ⟨by rfl, rfl⟩) (by assumption) ?_
      simp only [Act.put, List.getElem_toArray, List.getElem_cons_zero, List.getElem_cons_succ, List.setIfInBounds_toArray, List.set_cons_zero, List.set_cons_succ]
      refine wpAnyH_take (i := 30) (v := undef) rfl (by kernel_rfl) (by kernel_rfl) (by kernel_rfl) (fun _ _ _ h => h) (Or.inr ⟨by rfl, rfl⟩) (by assumption) ?_
      simp only [Act.put, List.getElem_toArray, List.getElem_cons_zero, List.getElem_cons_succ, List.setIfInBounds_toArray, List.set_cons_zero, List.set_cons_succ]
      refine wpAnyH_take (i := 31) (v := undef) rfl (by kernel_rfl) (by kernel_rfl) (by kernel_rfl) (fun _ _ _ h => h) (Or.inr ⟨by rfl, rfl⟩) (by assumption) ?_
      simp only [Act.put, List.getElem_toArray, List.getElem_cons_zero, List.getElem_cons_succ, List.setIfInBounds_toArray, List.set_cons_zero, List.set_cons_succ]
      refine wpAnyH_take (i := 32) (v := undef) rfl (by kernel_rfl) (by kernel_rfl) (by kernel_rfl) (fun _ _ _ h => h) (Or.inr ⟨by rfl, rfl⟩) (by assumption) ?_
      simp only [Act.put, List.getElem_toArray, List.getElem_cons_zero, List.getElem_cons_succ, List.setIfInBounds_toArray, List.set_cons_zero, List.set_cons_succ]
      refine wpAnyH_take (i := 33) (v := undef) rfl (by kernel_rfl) (by kernel_rfl) (by kernel_rfl) (fun _ _ _ h => h) (Or.inr ⟨by rfl, rfl⟩) (by assumption) ?_
      simp only [Act.put, List.getElem_toArray, List.getElem_cons_zero, List.getElem_cons_succ, List.setIfInBounds_toArray, List.set_cons_zero, List.set_cons_succ]
      refine wpAnyH_take (i := 34) (v := undef) rfl (by kernel_rfl) (by kernel_rfl) (by kernel_rfl) (fun _ _ _ h => h) (Or.inr ⟨by rfl, rfl⟩) (by assumption) ?_
      simp only [Act.put, List.getElem_toArray, List.getElem_cons_zero, List.getElem_cons_succ, List.setIfInBounds_toArray, List.set_cons_zero, List.set_cons_succ]
      refine wpAnyH_take (i := 35) (v := undef) rfl (by kernel_rfl) (by kernel_rfl) (by kernel_rfl) (fun _ _ _ h => h) (Or.inr ⟨by rfl, rfl⟩) (by assumption) ?_
      simp only [Act.put, List.getElem_toArray, List.getElem_cons_zero, List.getElem_cons_succ, List.setIfInBounds_toArray, List.set_cons_zero, List.set_cons_succ]
      refine wpAnyH_take (i := 36) (v := undef) rfl (by kernel_rfl) (by kernel_rfl) (by kernel_rfl) (fun _ _ _ h => h) (Or.inr ⟨by rfl, rfl⟩) (by assumption) ?_
      simp only [Act.put, List.getElem_toArray, List.getElem_cons_zero, List.getElem_cons_succ, List.setIfInBounds_toArray, List.set_cons_zero, List.set_cons_succ]
      refine wpAnyH_take (i := 37) (v := undef) rfl (by kernel_rfl) (by kernel_rfl) (by kernel_rfl) (fun _ _ _ h => h) (Or.inr ⟨by rfl, rfl⟩) (by assumption) ?_
      simp only [Act.put, List.getElem_toArray, List.getElem_cons_zero, List.getElem_cons_succ, List.setIfInBounds_toArray, List.set_cons_zero, List.set_cons_succ]
      refine wpAnyH_take (i := 38) (v := undef) rfl (by kernel_rfl) (by kernel_rfl) (by kernel_rfl) (fun _ _ _ h => h) (Or.inr ⟨by rfl, rfl⟩) (by assumption) ?_
      simp only [Act.put, List.getElem_toArray, List.getElem_cons_zero, List.getElem_cons_succ, List.setIfInBounds_toArray, List.set_cons_zero, List.set_cons_succ]
      refine wpAnyH_take (i := 39) (v := ?_) rfl (by kernel_rfl) (by kernel_rfl) (by kernel_rfl) (fun _ _ _ h => h) (Or.inl ⟨by rfl, ?_⟩) (by assumption) ?_
      rotate_left
      focus ((intro wS hSw; (try dsimp only at hSw); go_simp); (try (with_reducible rfl)))
      simp only [Act.put, List.getElem_toArray, List.getElem_cons_zero, List.getElem_cons_succ, List.setIfInBounds_toArray, List.set_cons_zero, List.set_cons_succ]
      refine wpAnyH_take (i := 40) (v := ?_) rfl (by kernel_rfl) (by kernel_rfl) (by kernel_rfl) (fun _ _ _ h => h) (Or.inl ⟨by rfl, ?_⟩) (by assumption) ?_
      rotate_left
      focus ((intro wS hSw; (try dsimp only at hSw); go_simp); (try (with_reducible rfl)))
      simp only [Act.put, List.getElem_toArray, List.getElem_cons_zero, List.getElem_cons_succ, List.setIfInBounds_toArray, List.set_cons_zero, List.set_cons_succ]
      refine wpAnyH_done (by kernel_rfl) ?_ _
      clear hHeld
      go_wp2_with fail
      go_ret
      exact ⟨rfl, (HF8.out _ (Below.onto HE3.out HB9.out)).1, (HF8.out _ (Below.onto HE3.out HB9.out)).2⟩
    · refine wp_region_held_drew (S := (fun w' => Below wc.heap.size wc w' ∧ w'.cell? ⟨kb, 0, none⟩ = some (.int .i64 q.a) ∧ w'.cell? ⟨kb, 1, none⟩ = some (.int .i64 q.b) ∧ w'.cell? ⟨kb, 2, none⟩ = some (.int .i64 q.wd) ∧ w'.cell? ⟨b7, 0, none⟩ = some (.int .i64 p1) ∧ w'.cell? ⟨b7, 1, none⟩ = some (.int .i64 p2))) (by kernel_rfl) (HKc.out _ ((Below.refl _ _).drew)) (fun hHeld => ?_)
      refine wpAnyH_take (i := 0) (v := ?_) rfl (by kernel_rfl) (by kernel_rfl) (by kernel_rfl) (fun _ _ _ h => h) (Or.inl ⟨by rfl, ?_⟩) (by assumption) ?_
      rotate_left
      focus ((intro wS hSw; (try dsimp only at hSw); go_simp); (try (with_reducible rfl)))
      simp only [Act.put, List.getElem_toArray, List.getElem_cons_zero, List.getElem_cons_succ, List.setIfInBounds_toArray, List.set_cons_zero, List.set_cons_succ]
      refine wpAnyH_take (i := 1) (v := ?_) rfl (by kernel_rfl) (by kernel_rfl) (by kernel_rfl) (fun _ _ _ h => h) (Or.inl ⟨by rfl, ?_⟩) (by assumption) ?_
      rotate_left
      focus ((intro wS hSw; (try dsimp only at hSw); go_simp); (try (with_reducible rfl)))
      simp only [Act.put, List.getElem_toArray, List.getElem_cons_zero, List.getElem_cons_succ, List.setIfInBounds_toArray, List.set_cons_zero, List.set_cons_succ]
      refine wpAnyH_take (i := 2) (v := ?_) rfl (by kernel_rfl) (by kernel_rfl) (by kernel_rfl) (fun _ _ _ h => h) (Or.inl ⟨by rfl, ?_⟩) (by assumption) ?_
      rotate_left
      focus ((intro wS hSw; (try dsimp only at hSw); go_simp); (try (with_reducible rfl)))
      simp only [Act.put, List.getElem_toArray, List.getElem_cons_zero, List.getElem_cons_succ, List.setIfInBounds_toArray, List.set_cons_zero, List.set_cons_succ]
      refine wpAnyH_take (i := 3) (v := ?_) rfl (by kernel_rfl) (by kernel_rfl) (by kernel_rfl) (fun _ _ _ h => h) (Or.inl ⟨by rfl, ?_⟩) (by assumption) ?_
      rotate_left
      focus ((intro wS hSw; (try dsimp only at hSw); go_simp); (try (with_reducible rfl)))
      simp only [Act.put, List.getElem_toArray, List.getElem_cons_zero, List.getElem_cons_succ, List.setIfInBounds_toArray, List.set_cons_zero, List.set_cons_succ]
      refine wpAnyH_take (i := 4) (v := ?_) rfl (by kernel_rfl) (by kernel_rfl) (by kernel_rfl) (fun _ _ _ h => h) (Or.inl ⟨by rfl, ?_⟩) (by assumption) ?_
      rotate_left
      focus ((intro wS hSw; (try dsimp only at hSw); go_simp); (try (with_reducible rfl)))
      simp only [Act.put, List.getElem_toArray, List.getElem_cons_zero, List.getElem_cons_succ, List.setIfInBounds_toArray, List.set_cons_zero, List.set_cons_succ]
      refine wpAnyH_take (i := 5) (v := ?_) rfl (by kernel_rfl) (by kernel_rfl) (by kernel_rfl) (fun _ _ _ h => h) (Or.inl ⟨by rfl, ?_⟩) (by assumption) ?_
      rotate_left
      focus ((intro wS hSw; (try dsimp only at hSw); go_simp); (try (with_reducible rfl)))
      simp only [Act.put, List.getElem_toArray, List.getElem_cons_zero, List.getElem_cons_succ, List.setIfInBounds_toArray, List.set_cons_zero, List.set_cons_succ]
      refine wpAnyH_take (i := 6) (v := ?_) rfl (by kernel_rfl) (by kernel_rfl) (by kernel_rfl) (fun _ _ _ h => h) (Or.inl ⟨by rfl, ?_⟩) (by assumption) ?_
      rotate_left
      focus ((intro wS hSw; (try dsimp only at hSw); go_simp); (try (with_reducible rfl)))
      simp only [Act.put, List.getElem_toArray, List.getElem_cons_zero, List.getElem_cons_succ, List.setIfInBounds_toArray, List.set_cons_zero, List.set_cons_succ]
      refine wpAnyH_take (i := 7) (v := ?_) rfl (by kernel_rfl) (by kernel_rfl) (by kernel_rfl) (fun _ _ _ h => h) (Or.inl ⟨by rfl, ?_⟩) (by assumption) ?_
      rotate_left
      focus ((intro wS hSw; (try dsimp only at hSw); go_simp); (try (with_reducible rfl)))
      simp only [Act.put, List.getElem_toArray, List.getElem_cons_zero, List.getElem_cons_succ, List.setIfInBounds_toArray, List.set_cons_zero, List.set_cons_succ]
      refine wpAnyH_take (i := 8) (v := ?_) rfl (by kernel_rfl) (by kernel_rfl) (by kernel_rfl) (fun _ _ _ h => h) (Or.inl ⟨by rfl, ?_⟩) (by assumption) ?_
      rotate_left
      focus ((intro wS hSw; (try dsimp only at hSw); go_simp); (try (with_reducible rfl)))
      simp only [Act.put, List.getElem_toArray, List.getElem_cons_zero, List.getElem_cons_succ, List.setIfInBounds_toArray, List.set_cons_zero, List.set_cons_succ]
      refine wpAnyH_take (i := 9) (v := ?_) rfl (by kernel_rfl) (by kernel_rfl) (by kernel_rfl) (fun _ _ _ h => h) (Or.inl ⟨by rfl, ?_⟩) (by assumption) ?_
      rotate_left
      focus ((intro wS hSw; (try dsimp only at hSw); go_simp); (try (with_reducible rfl)))
      simp only [Act.put, List.getElem_toArray, List.getElem_cons_zero, List.getElem_cons_succ, List.setIfInBounds_toArray, List.set_cons_zero, List.set_cons_succ]
      refine wpAnyH_ready (rs := [10]) (by kernel_rfl) (by simp) ?_
      refine AllReadyH.cons rfl (fun K hK => ?_) AllReadyH.nil
      go_simp
      refine (HL2.out _).mono ?_
      rintro e wx3 ⟨rfl, hbx⟩
      have HE3 := Lib.hid (show Below wc.heap.size wc wx3 from Below.drewL hbx)
      clear hbx
      refine hK.out _ _ (HKc.out _ HE3.out) (fun hHeld => ?_)
      clear hK K
      (try simp only [Act.put, List.getElem_toArray, List.getElem_cons_zero, List.getElem_cons_succ, List.setIfInBounds_toArray, List.set_cons_zero, List.set_cons_succ])
      refine wpAnyH_take (i := 11) (v := ?_) rfl (by kernel_rfl) (by kernel_rfl) (by kernel_rfl) (fun _ _ _ h => h) (Or.inl ⟨by rfl, ?_⟩) (by assumption) ?_
      rotate_left
      focus ((intro wS hSw; (try dsimp only at hSw); go_simp); (try (with_reducible rfl)))
      simp only [Act.put, List.getElem_toArray, List.getElem_cons_zero, List.getElem_cons_succ, List.setIfInBounds_toArray, List.set_cons_zero, List.set_cons_succ]
      refine wpAnyH_take (i := 12) (v := ?_) rfl (by kernel_rfl) (by kernel_rfl) (by kernel_rfl) (fun _ _ _ h => h) (Or.inl ⟨by rfl, ?_⟩) (by assumption) ?_
      rotate_left
      focus ((intro wS hSw; (try dsimp only at hSw); go_simp); (try (with_reducible rfl)))
      simp only [Act.put, List.getElem_toArray, List.getElem_cons_zero, List.getElem_cons_succ, List.setIfInBounds_toArray, List.set_cons_zero, List.set_cons_succ]
      refine wpAnyH_take (i := 13) (v := ?_) rfl (by kernel_rfl) (by kernel_rfl) (by kernel_rfl) (fun _ _ _ h => h) (Or.inl ⟨by rfl, ?_⟩) (by assumption) ?_
      rotate_left
      focus ((intro wS hSw; (try dsimp only at hSw); go_simp); (try (with_reducible rfl)))
      simp only [Act.put, List.getElem_toArray, List.getElem_cons_zero, List.getElem_cons_succ, List.setIfInBounds_toArray, List.set_cons_zero, List.set_cons_succ]
      refine wpAnyH_take (i := 14) (v := ?_) rfl (by kernel_rfl) (by kernel_rfl) (by kernel_rfl) (fun _ _ _ h => h) (Or.inl ⟨by rfl, ?_⟩) (by assumption) ?_
      rotate_left
      focus ((intro wS hSw; (try dsimp only at hSw); go_simp); (try (with_reducible rfl)))
      simp only [Act.put, List.getElem_toArray, List.getElem_cons_zero, List.getElem_cons_succ, List.setIfInBounds_toArray, List.set_cons_zero, List.set_cons_succ]
      refine wpAnyH_take (i := 15) (v := ?_) rfl (by kernel_rfl) (by kernel_rfl) (by kernel_rfl) (fun _ _ _ h => h) (Or.inl ⟨by rfl, ?_⟩) (by assumption) ?_
      rotate_left
      focus ((intro wS hSw; (try dsimp only at hSw); go_simp); (try (with_reducible rfl)))
      simp only [Act.put, List.getElem_toArray, List.getElem_cons_zero, List.getElem_cons_succ, List.setIfInBounds_toArray, List.set_cons_zero, List.set_cons_succ]
      refine wpAnyH_take (i := 16) (v := ?_) rfl (by kernel_rfl) (by kernel_rfl) (by kernel_rfl) (fun _ _ _ h => h) (Or.inl ⟨by rfl, ?_⟩) (by assumption) ?_
      rotate_left
      focus ((intro wS hSw; (try dsimp only at hSw); go_simp); (try (with_reducible rfl)))
      simp only [Act.put, List.getElem_toArray, List.getElem_cons_zero, List.getElem_cons_succ, List.setIfInBounds_toArray, List.set_cons_zero, List.set_cons_succ]
      refine wpAnyH_take (i := 17) (v := ?_) rfl (by kernel_rfl) (by kernel_rfl) (by kernel_rfl) (fun _ _ _ h => h) (Or.inl ⟨by rfl, ?_⟩) (by assumption) ?_
      rotate_left
      focus ((intro wS hSw; (try dsimp only at hSw); go_simp); (try (with_reducible rfl)))
      simp only [Act.put, List.getElem_toArray, List.getElem_cons_zero, List.getElem_cons_succ, List.setIfInBounds_toArray, List.set_cons_zero, List.set_cons_succ]
      refine wpAnyH_take (i := 18) (v := ?_) rfl (by kernel_rfl) (by kernel_rfl) (by kernel_rfl) (fun _ _ _ h => h) (Or.inl ⟨by rfl, ?_⟩) (by assumption) ?_
      rotate_left
      focus ((intro wS hSw; (try dsimp only at hSw); go_simp); (try (with_reducible rfl)))
      simp only [Act.put, List.getElem_toArray, List.getElem_cons_zero, List.getElem_cons_succ, List.setIfInBounds_toArray, List.set_cons_zero, List.set_cons_succ]
      refine wpAnyH_take (i := 19) (v := ?_) rfl (by kernel_rfl) (by kernel_rfl) (by kernel_rfl) (fun _ _ _ h => h) (Or.inl ⟨by rfl, ?_⟩) (by assumption) ?_
      rotate_left
      focus ((intro wS hSw; (try dsimp only at hSw); go_simp); (try (with_reducible rfl)))
      simp only [Act.put, List.getElem_toArray, List.getElem_cons_zero, List.getElem_cons_succ, List.setIfInBounds_toArray, List.set_cons_zero, List.set_cons_succ]
      refine wpAnyH_take (i := 20) (v := ?_) rfl (by kernel_rfl) (by kernel_rfl) (by kernel_rfl) (fun _ _ _ h => h) (Or.inl ⟨by rfl, ?_⟩) (by assumption) ?_
      rotate_left
      focus ((intro wS hSw; (try dsimp only at hSw); go_simp); (try (with_reducible rfl)))
      simp only [Act.put, List.getElem_toArray, List.getElem_cons_zero, List.getElem_cons_succ, List.setIfInBounds_toArray, List.set_cons_zero, List.set_cons_succ]
      refine wpAnyH_take (i := 21) (v := ?_) rfl (by kernel_rfl) (by kernel_rfl) (by kernel_rfl) (fun _ _ _ h => h) (Or.inl ⟨by rfl, ?_⟩) (by assumption) ?_
      rotate_left
      focus ((intro wS hSw; (try dsimp only at hSw); go_simp); (try (with_reducible rfl)))
      simp only [Act.put, List.getElem_toArray, List.getElem_cons_zero, List.getElem_cons_succ, List.setIfInBounds_toArray, List.set_cons_zero, List.set_cons_succ]
      refine wpAnyH_take (i := 22) (v := ?_) rfl (by kernel_rfl) (by kernel_rfl) (by kernel_rfl) (fun _ _ _ h => h) (Or.inl ⟨by rfl, ?_⟩) (by assumption) ?_
      rotate_left
      focus ((intro wS hSw; (try dsimp only at hSw); go_simp); (try (with_reducible rfl)))
      simp only [Act.put, List.getElem_toArray, List.getElem_cons_zero, List.getElem_cons_succ, List.setIfInBounds_toArray, List.set_cons_zero, List.set_cons_succ]
      refine wpAnyH_take (i := 23) (v := ?_) rfl (by kernel_rfl) (by kernel_rfl) (by kernel_rfl) (fun _ _ _ h => h) (Or.inl ⟨by rfl, ?_⟩) (by assumption) ?_
      rotate_left
      focus ((intro wS hSw; (try dsimp only at hSw); go_simp); (try (with_reducible rfl)))
      simp only [Act.put, List.getElem_toArray, List.getElem_cons_zero, List.getElem_cons_succ, List.setIfInBounds_toArray, List.set_cons_zero, List.set_cons_succ]
      refine wpAnyH_take (i := 24) (v := undef) rfl (by kernel_rfl) (by kernel_rfl) (by kernel_rfl) (fun _ _ _ h => h) (Or.inr ⟨by rfl, rfl⟩) (by assumption) ?_
      simp only [Act.put, List.getElem_toArray, List.getElem_cons_zero, List.getElem_cons_succ, List.setIfInBounds_toArray, List.set_cons_zero, List.set_cons_succ]
      refine wpAnyH_take (i := 25) (v := undef) rfl (by kernel_rfl) (by kernel_rfl) (by kernel_rfl) (fun _ _ _ h => h) (Or.inr ⟨by rfl, rfl⟩) (by assumption) ?_
      simp only [Act.put, List.getElem_toArray, List.getElem_cons_zero, List.getElem_cons_succ, List.setIfInBounds_toArray, List.set_cons_zero, List.set_cons_succ]
      refine wpAnyH_take (i := 26) (v := undef) rfl (by kernel_rfl) (by kernel_rfl) (by kernel_rfl) (fun _ _ _ h => h) (Or.inr ⟨by rfl, rfl⟩) (by assumption) ?_
      simp only [Act.put, List.getElem_toArray, List.getElem_cons_zero, List.getElem_cons_succ, List.setIfInBounds_toArray, List.set_cons_zero, List.set_cons_succ]
      refine wpAnyH_take (i := 27) (v := undef) rfl (by kernel_rfl) (by kernel_rfl) (by kernel_rfl) (fun _ _ _ h => h) (Or.inr ⟨by rfl, rfl⟩) (by assumption) ?_
      simp only [Act.put, List.getElem_toArray, List.getElem_cons_zero, List.getElem_cons_succ, List.setIfInBounds_toArray, List.set_cons_zero, List.set_cons_succ]
      refine wpAnyH_take (i := 28) (v := undef) rfl (by kernel_rfl) (by kernel_rfl) (by kernel_rfl) (fun _ _ _ h => h) (Or.inr ⟨by rfl, rfl⟩) (by assumption) ?_
      simp only [Act.put, List.getElem_toArray, List.getElem_cons_zero, List.getElem_cons_succ, List.setIfInBounds_toArray, List.set_cons_zero, List.set_cons_succ]
      refine wpAnyH_take (i := 29) (v := undef) rfl (by kernel_rfl) (by kernel_rfl) (by kernel_rfl) (fun _ _ _ h => h) (Or.inr ⟨by rfl, rfl⟩) (by assumption) ?_
      simp only [Act.put, List.getElem_toArray, List.getElem_cons_zero, List.getElem_cons_succ, List.setIfInBounds_toArray, List.set_cons_zero, List.set_cons_succ]
      refine wpAnyH_take (i := 30) (v := undef) rfl (by kernel_rfl) (by kernel_rfl) (by kernel_rfl) (fun _ _ _ h => h) (Or.inr ⟨by rfl, rfl⟩) (by assumption) ?_
      simp only [Act.put, List.getElem_toArray, List.getElem_cons_zero, List.getElem_cons_succ, List.setIfInBounds_toArray, List.set_cons_zero, List.set_cons_succ]
      refine wpAnyH_take (i := 31) (v := undef) rfl (by kernel_rfl) (by kernel_rfl) (by kernel_rfl) (fun _ _ _ h => h) (Or.inr ⟨by rfl, rfl⟩) (by assumption) ?_
      simp only [Act.put, List.getElem_toArray, List.getElem_cons_zero, List.getElem_cons_succ, List.setIfInBounds_toArray, List.set_cons_zero, List.set_cons_succ]
      refine wpAnyH_take (i := 32) (v := undef) rfl (by kernel_rfl) (by kernel_rfl) (by kernel_rfl) (fun _ _ _ h => h) (Or.inr ⟨by rfl, rfl⟩) (by assumption) ?_
      simp only [Act.put, List.getElem_toArray, List.getElem_cons_zero, List.getElem_cons_succ, List.setIfInBounds_toArray, List.set_cons_zero, List.set_cons_succ]
      refine wpAnyH_take (i := 33) (v := undef) rfl (by kernel_rfl) (by kernel_rfl) (by kernel_rfl) (fun _ _ _ h => h) (Or.inr ⟨by rfl, rfl⟩) (by assumption) ?_
      simp only [Act.put, List.getElem_toArray, List.getElem_cons_zero, List.getElem_cons_succ, List.setIfInBounds_toArray, List.set_cons_zero, List.set_cons_succ]
      refine wpAnyH_take (i := 34) (v := undef) rfl (by kernel_rfl) (by kernel_rfl) (by kernel_rfl) (fun _ _ _ h => h) (Or.inr ⟨by rfl, rfl⟩) (by assumption) ?_
      simp only [Act.put, List.getElem_toArray, List.getElem_cons_zero, List.getElem_cons_succ, List.setIfInBounds_toArray, List.set_cons_zero, List.set_cons_succ]
      refine wpAnyH_take (i := 35) (v := undef) rfl (by kernel_rfl) (by kernel_rfl) (by kernel_rfl) (fun _ _ _ h => h) (Or.inr ⟨by rfl, rfl⟩) (by assumption) ?_
      simp only [Act.put, List.getElem_toArray, List.getElem_cons_zero, List.getElem_cons_succ, List.setIfInBounds_toArray, List.set_cons_zero, List.set_cons_succ]
      refine wpAnyH_take (i := 36) (v := undef) rfl (by kernel_rfl) (by kernel_rfl) (by kernel_rfl) (fun _ _ _ h => h) (Or.inr ⟨by rfl, rfl⟩) (by assumption) ?_
      simp only [Act.put, List.getElem_toArray, List.getElem_cons_zero, List.getElem_cons_succ, List.setIfInBounds_toArray, List.set_cons_zero, List.set_cons_succ]
      refine wpAnyH_take (i := 37) (v := undef) rfl (by kernel_rfl) (by kernel_rfl) (by kernel_rfl) (fun _ _ _ h => h) (Or.inr ⟨by rfl, rfl⟩) (by assumption) ?_
      simp only [Act.put, List.getElem_toArray, List.getElem_cons_zero, List.getElem_cons_succ, List.setIfInBounds_toArray, List.set_cons_zero, List.set_cons_succ]
      refine wpAnyH_take (i := 38) (v := undef) rfl (by kernel_rfl) (by kernel_rfl) (by kernel_rfl) (fun _ _ _ h => h) (Or.inr ⟨by rfl, rfl⟩) (by assumption) ?_
      simp only [Act.put, List.getElem_toArray, List.getElem_cons_zero, List.getElem_cons_succ, List.setIfInBounds_toArray, List.set_cons_zero, List.set_cons_succ]
      refine wpAnyH_take (i := 39) (v := ?_) rfl (by kernel_rfl) (by kernel_rfl) (by kernel_rfl) (fun _ _ _ h => h) (Or.inl ⟨by rfl, ?_⟩) (by assumption) ?_
      rotate_left
      focus ((intro wS hSw; (try dsimp only at hSw); go_simp); (try (with_reducible rfl)))
      simp only [Act.put, List.getElem_toArray, List.getElem_cons_zero, List.getElem_cons_succ, List.setIfInBounds_toArray, List.set_cons_zero, List.set_cons_succ]
      refine wpAnyH_take (i := 40) (v := ?_) rfl (by kernel_rfl) (by kernel_rfl) (by kernel_rfl) (fun _ _ _ h => h) (Or.inl ⟨by rfl, ?_⟩) (by assumption) ?_
      rotate_left
      focus ((intro wS hSw; (try dsimp only at hSw); go_simp); (try (with_reducible rfl)))
      simp only [Act.put, List.getElem_toArray, List.getElem_cons_zero, List.getElem_cons_succ, List.setIfInBounds_toArray, List.set_cons_zero, List.set_cons_succ]
      refine wpAnyH_done (by kernel_rfl) ?_ _
      clear hHeld
      go_wp2_with fail
      go_ret
      exact ⟨rfl, (HF8.out _ (Below.onto HE3.out HB9.out)).1, (HF8.out _ (Below.onto HE3.out HB9.out)).2⟩
    · refine wp_region_held_drew (S := (fun w' => Below wc.heap.size wc w' ∧ w'.cell? ⟨kb, 0, none⟩ = some (.int .i64 q.a) ∧ w'.cell? ⟨kb, 1, none⟩ = some (.int .i64 q.b) ∧ w'.cell? ⟨kb, 2, none⟩ = some (.int .i64 q.wd) ∧ w'.cell? ⟨b7, 0, none⟩ = some (.int .i64 p1) ∧ w'.cell? ⟨b7, 1, none⟩ = some (.int .i64 p2))) (by kernel_rfl) (HKc.out _ ((Below.refl _ _).drew)) (fun hHeld => ?_)
      refine wpAnyH_take (i := 0) (v := ?_) rfl (by kernel_rfl) (by kernel_rfl) (by kernel_rfl) (fun _ _ _ h => h) (Or.inl ⟨by rfl, ?_⟩) (by assumption) ?_
      rotate_left
      focus ((intro wS hSw; (try dsimp only at hSw); go_simp); (try (with_reducible rfl)))
      simp only [Act.put, List.getElem_toArray, List.getElem_cons_zero, List.getElem_cons_succ, List.setIfInBounds_toArray, List.set_cons_zero, List.set_cons_succ]
      refine wpAnyH_take (i := 1) (v := ?_) rfl (by kernel_rfl) (by kernel_rfl) (by kernel_rfl) (fun _ _ _ h => h) (Or.inl ⟨by rfl, ?_⟩) (by assumption) ?_
      rotate_left
      focus ((intro wS hSw; (try dsimp only at hSw); go_simp); (try (with_reducible rfl)))
      simp only [Act.put, List.getElem_toArray, List.getElem_cons_zero, List.getElem_cons_succ, List.setIfInBounds_toArray, List.set_cons_zero, List.set_cons_succ]
      refine wpAnyH_take (i := 2) (v := ?_) rfl (by kernel_rfl) (by kernel_rfl) (by kernel_rfl) (fun _ _ _ h => h) (Or.inl ⟨by rfl, ?_⟩) (by assumption) ?_
      rotate_left
      focus ((intro wS hSw; (try dsimp only at hSw); go_simp); (try (with_reducible rfl)))
      simp only [Act.put, List.getElem_toArray, List.getElem_cons_zero, List.getElem_cons_succ, List.setIfInBounds_toArray, List.set_cons_zero, List.set_cons_succ]
      refine wpAnyH_take (i := 3) (v := ?_) rfl (by kernel_rfl) (by kernel_rfl) (by kernel_rfl) (fun _ _ _ h => h) (Or.inl ⟨by rfl, ?_⟩) (by assumption) ?_
      rotate_left
      focus ((intro wS hSw; (try dsimp only at hSw); go_simp); (try (with_reducible rfl)))
      simp only [Act.put, List.getElem_toArray, List.getElem_cons_zero, List.getElem_cons_succ, List.setIfInBounds_toArray, List.set_cons_zero, List.set_cons_succ]
      refine wpAnyH_take (i := 4) (v := ?_) rfl (by kernel_rfl) (by kernel_rfl) (by kernel_rfl) (fun _ _ _ h => h) (Or.inl ⟨by rfl, ?_⟩) (by assumption) ?_
      rotate_left
      focus ((intro wS hSw; (try dsimp only at hSw); go_simp); (try (with_reducible rfl)))
      simp only [Act.put, List.getElem_toArray, List.getElem_cons_zero, List.getElem_cons_succ, List.setIfInBounds_toArray, List.set_cons_zero, List.set_cons_succ]
      refine wpAnyH_take (i := 5) (v := ?_) rfl (by kernel_rfl) (by kernel_rfl) (by kernel_rfl) (fun _ _ _ h => h) (Or.inl ⟨by rfl, ?_⟩) (by assumption) ?_
      rotate_left
      focus ((intro wS hSw; (try dsimp only at hSw); go_simp); (try (with_reducible rfl)))
      simp only [Act.put, List.getElem_toArray, List.getElem_cons_zero, List.getElem_cons_succ, List.setIfInBounds_toArray, List.set_cons_zero, List.set_cons_succ]
      refine wpAnyH_take (i := 6) (v := ?_) rfl (by kernel_rfl) (by kernel_rfl) (by kernel_rfl) (fun _ _ _ h => h) (Or.inl ⟨by rfl, ?_⟩) (by assumption) ?_
      rotate_left
      focus ((intro wS hSw; (try dsimp only at hSw); go_simp); (try (with_reducible rfl)))
      simp only [Act.put, List.getElem_toArray, List.getElem_cons_zero, List.getElem_cons_succ, List.setIfInBounds_toArray, List.set_cons_zero, List.set_cons_succ]
      refine wpAnyH_take (i := 7) (v := ?_) rfl (by kernel_rfl) (by kernel_rfl) (by kernel_rfl) (fun _ _ _ h => h) (Or.inl ⟨by rfl, ?_⟩) (by assumption) ?_
      rotate_left
      focus ((intro wS hSw; (try dsimp only at hSw); go_simp); (try (with_reducible rfl)))
      simp only [Act.put, List.getElem_toArray, List.getElem_cons_zero, List.getElem_cons_succ, List.setIfInBounds_toArray, List.set_cons_zero, List.set_cons_succ]
      refine wpAnyH_take (i := 8) (v := ?_) rfl (by kernel_rfl) (by kernel_rfl) (by kernel_rfl) (fun _ _ _ h => h) (Or.inl ⟨by rfl, ?_⟩) (by assumption) ?_
      rotate_left
      focus ((intro wS hSw; (try dsimp only at hSw); go_simp); (try (with_reducible rfl)))
      simp only [Act.put, List.getElem_toArray, List.getElem_cons_zero, List.getElem_cons_succ, List.setIfInBounds_toArray, List.set_cons_zero, List.set_cons_succ]
      refine wpAnyH_take (i := 9) (v := ?_) rfl (by kernel_rfl) (by kernel_rfl) (by kernel_rfl) (fun _ _ _ h => h) (Or.inl ⟨by rfl, ?_⟩) (by assumption) ?_
      rotate_left
      focus ((intro wS hSw; (try dsimp only at hSw); go_simp); (try (with_reducible rfl)))
      simp only [Act.put, List.getElem_toArray, List.getElem_cons_zero, List.getElem_cons_succ, List.setIfInBounds_toArray, List.set_cons_zero, List.set_cons_succ]
      refine wpAnyH_ready (rs := [10]) (by kernel_rfl) (by simp) ?_
      refine AllReadyH.cons rfl (fun K hK => ?_) AllReadyH.nil
      go_simp
      refine (HL2.out _).mono ?_
      rintro e wx3 ⟨rfl, hbx⟩
      have HE3 := Lib.hid (show Below wc.heap.size wc wx3 from Below.drewL hbx)
      clear hbx
      refine hK.out _ _ (HKc.out _ HE3.out) (fun hHeld => ?_)
      clear hK K
      (try simp only [Act.put, List.getElem_toArray, List.getElem_cons_zero, List.getElem_cons_succ, List.setIfInBounds_toArray, List.set_cons_zero, List.set_cons_succ])
      refine wpAnyH_take (i := 11) (v := ?_) rfl (by kernel_rfl) (by kernel_rfl) (by kernel_rfl) (fun _ _ _ h => h) (Or.inl ⟨by rfl, ?_⟩) (by assumption) ?_
      rotate_left
      focus ((intro wS hSw; (try dsimp only at hSw); go_simp); (try (with_reducible rfl)))
      simp only [Act.put, List.getElem_toArray, List.getElem_cons_zero, List.getElem_cons_succ, List.setIfInBounds_toArray, List.set_cons_zero, List.set_cons_succ]
      refine wpAnyH_take (i := 12) (v := ?_) rfl (by kernel_rfl) (by kernel_rfl) (by kernel_rfl) (fun _ _ _ h => h) (Or.inl ⟨by rfl, ?_⟩) (by assumption) ?_
      rotate_left
      focus ((intro wS hSw; (try dsimp only at hSw); go_simp); (try (with_reducible rfl)))
      simp only [Act.put, List.getElem_toArray, List.getElem_cons_zero, List.getElem_cons_succ, List.setIfInBounds_toArray, List.set_cons_zero, List.set_cons_succ]
      refine wpAnyH_take (i := 13) (v := ?_) rfl (by kernel_rfl) (by kernel_rfl) (by kernel_rfl) (fun _ _ _ h => h) (Or.inl ⟨by rfl, ?_⟩) (by assumption) ?_
      rotate_left
      focus ((intro wS hSw; (try dsimp only at hSw); go_simp); (try (with_reducible rfl)))
      simp only [Act.put, List.getElem_toArray, List.getElem_cons_zero, List.getElem_cons_succ, List.setIfInBounds_toArray, List.set_cons_zero, List.set_cons_succ]
      refine wpAnyH_take (i := 14) (v := ?_) rfl (by kernel_rfl) (by kernel_rfl) (by kernel_rfl) (fun _ _ _ h => h) (Or.inl ⟨by rfl, ?_⟩) (by assumption) ?_
      rotate_left
      focus ((intro wS hSw; (try dsimp only at hSw); go_simp); (try (with_reducible rfl)))
      simp only [Act.put, List.getElem_toArray, List.getElem_cons_zero, List.getElem_cons_succ, List.setIfInBounds_toArray, List.set_cons_zero, List.set_cons_succ]
      refine wpAnyH_take (i := 15) (v := ?_) rfl (by kernel_rfl) (by kernel_rfl) (by kernel_rfl) (fun _ _ _ h => h) (Or.inl ⟨by rfl, ?_⟩) (by assumption) ?_
      rotate_left
      focus ((intro wS hSw; (try dsimp only at hSw); go_simp); (try (with_reducible rfl)))
      simp only [Act.put, List.getElem_toArray, List.getElem_cons_zero, List.getElem_cons_succ, List.setIfInBounds_toArray, List.set_cons_zero, List.set_cons_succ]
      refine wpAnyH_take (i := 16) (v := ?_) rfl (by kernel_rfl) (by kernel_rfl) (by kernel_rfl) (fun _ _ _ h => h) (Or.inl ⟨by rfl, ?_⟩) (by assumption) ?_
      rotate_left
      focus ((intro wS hSw; (try dsimp only at hSw); go_simp); (try (with_reducible rfl)))
      simp only [Act.put, List.getElem_toArray, List.getElem_cons_zero, List.getElem_cons_succ, List.setIfInBounds_toArray, List.set_cons_zero, List.set_cons_succ]
      refine wpAnyH_take (i := 17) (v := ?_) rfl (by kernel_rfl) (by kernel_rfl) (by kernel_rfl) (fun _ _ _ h => h) (Or.inl ⟨by rfl, ?_⟩) (by assumption) ?_
      rotate_left
      focus ((intro wS hSw; (try dsimp only at hSw); go_simp); (try (with_reducible rfl)))
      simp only [Act.put, List.getElem_toArray, List.getElem_cons_zero, List.getElem_cons_succ, List.setIfInBounds_toArray, List.set_cons_zero, List.set_cons_succ]
      refine wpAnyH_take (i := 18) (v := ?_) rfl (by kernel_rfl) (by kernel_rfl) (by kernel_rfl) (fun _ _ _ h => h) (Or.inl ⟨by rfl, ?_⟩) (by assumption) ?_
      rotate_left
      focus ((intro wS hSw; (try dsimp only at hSw); go_simp); (try (with_reducible rfl)))
      simp only [Act.put, List.getElem_toArray, List.getElem_cons_zero, List.getElem_cons_succ, List.setIfInBounds_toArray, List.set_cons_zero, List.set_cons_succ]
      refine wpAnyH_take (i := 19) (v := ?_) rfl (by kernel_rfl) (by kernel_rfl) (by kernel_rfl) (fun _ _ _ h => h) (Or.inl ⟨by rfl, ?_⟩) (by assumption) ?_
      rotate_left
      focus ((intro wS hSw; (try dsimp only at hSw); go_simp); (try (with_reducible rfl)))
      simp only [Act.put, List.getElem_toArray, List.getElem_cons_zero, List.getElem_cons_succ, List.setIfInBounds_toArray, List.set_cons_zero, List.set_cons_succ]
      refine wpAnyH_take (i := 20) (v := ?_) rfl (by kernel_rfl) (by kernel_rfl) (by kernel_rfl) (fun _ _ _ h => h) (Or.inl ⟨by rfl, ?_⟩) (by assumption) ?_
      rotate_left
      focus ((intro wS hSw; (try dsimp only at hSw); go_simp); (try (with_reducible rfl)))
      simp only [Act.put, List.getElem_toArray, List.getElem_cons_zero, List.getElem_cons_succ, List.setIfInBounds_toArray, List.set_cons_zero, List.set_cons_succ]
      refine wpAnyH_take (i := 21) (v := ?_) rfl (by kernel_rfl) (by kernel_rfl) (by kernel_rfl) (fun _ _ _ h => h) (Or.inl ⟨by rfl, ?_⟩) (by assumption) ?_
      rotate_left
      focus ((intro wS hSw; (try dsimp only at hSw); go_simp); (try (with_reducible rfl)))
      simp only [Act.put, List.getElem_toArray, List.getElem_cons_zero, List.getElem_cons_succ, List.setIfInBounds_toArray, List.set_cons_zero, List.set_cons_succ]
      refine wpAnyH_take (i := 22) (v := ?_) rfl (by kernel_rfl) (by kernel_rfl) (by kernel_rfl) (fun _ _ _ h => h) (Or.inl ⟨by rfl, ?_⟩) (by assumption) ?_
      rotate_left
      focus ((intro wS hSw; (try dsimp only at hSw); go_simp); (try (with_reducible rfl)))
      simp only [Act.put, List.getElem_toArray, List.getElem_cons_zero, List.getElem_cons_succ, List.setIfInBounds_toArray, List.set_cons_zero, List.set_cons_succ]
      refine wpAnyH_take (i := 23) (v := ?_) rfl (by kernel_rfl) (by kernel_rfl) (by kernel_rfl) (fun _ _ _ h => h) (Or.inl ⟨by rfl, ?_⟩) (by assumption) ?_
      rotate_left
      focus ((intro wS hSw; (try dsimp only at hSw); go_simp); (try (with_reducible rfl)))
      simp only [Act.put, List.getElem_toArray, List.getElem_cons_zero, List.getElem_cons_succ, List.setIfInBounds_toArray, List.set_cons_zero, List.set_cons_succ]
      refine wpAnyH_take (i := 24) (v := ?_) rfl (by kernel_rfl) (by kernel_rfl) (by kernel_rfl) (fun _ _ _ h => h) (Or.inl ⟨by rfl, ?_⟩) (by assumption) ?_
      rotate_left
      focus ((intro wS hSw; (try dsimp only at hSw); go_simp); (try (with_reducible rfl)))
      simp only [Act.put, List.getElem_toArray, List.getElem_cons_zero, List.getElem_cons_succ, List.setIfInBounds_toArray, List.set_cons_zero, List.set_cons_succ]
      refine wpAnyH_take (i := 25) (v := ?_) rfl (by kernel_rfl) (by kernel_rfl) (by kernel_rfl) (fun _ _ _ h => h) (Or.inl ⟨by rfl, ?_⟩) (by assumption) ?_
      rotate_left
      focus ((intro wS hSw; (try dsimp only at hSw); go_simp); (try (with_reducible rfl)))
      simp only [Act.put, List.getElem_toArray, List.getElem_cons_zero, List.getElem_cons_succ, List.setIfInBounds_toArray, List.set_cons_zero, List.set_cons_succ]
      refine wpAnyH_take (i := 26) (v := ?_) rfl (by kernel_rfl) (by kernel_rfl) (by kernel_rfl) (fun _ _ _ h => h) (Or.inl ⟨by rfl, ?_⟩) (by assumption) ?_
      rotate_left
      focus ((intro wS hSw; (try dsimp only at hSw); go_simp); (try (with_reducible rfl)))
      simp only [Act.put, List.getElem_toArray, List.getElem_cons_zero, List.getElem_cons_succ, List.setIfInBounds_toArray, List.set_cons_zero, List.set_cons_succ]
      refine wpAnyH_take (i := 27) (v := ?_) rfl (by kernel_rfl) (by kernel_rfl) (by kernel_rfl) (fun _ _ _ h => h) (Or.inl ⟨by rfl, ?_⟩) (by assumption) ?_
      rotate_left
      focus ((intro wS hSw; (try dsimp only at hSw); go_simp); (try (with_reducible rfl)))
      simp only [Act.put, List.getElem_toArray, List.getElem_cons_zero, List.getElem_cons_succ, List.setIfInBounds_toArray, List.set_cons_zero, List.set_cons_succ]
      refine wpAnyH_take (i := 28) (v := ?_) rfl (by kernel_rfl) (by kernel_rfl) (by kernel_rfl) (fun _ _ _ h => h) (Or.inl ⟨by rfl, ?_⟩) (by assumption) ?_
      rotate_left
      focus ((intro wS hSw; (try dsimp only at hSw); go_simp); (try (with_reducible rfl)))
      simp only [Act.put, List.getElem_toArray, List.getElem_cons_zero, List.getElem_cons_succ, List.setIfInBounds_toArray, List.set_cons_zero, List.set_cons_succ]
      refine wpAnyH_take (i := 29) (v := ?_) rfl (by kernel_rfl) (by kernel_rfl) (by kernel_rfl) (fun _ _ _ h => h) (Or.inl ⟨by rfl, ?_⟩) (by assumption) ?_
      rotate_left
      focus ((intro wS hSw; (try dsimp only at hSw); go_simp); (try (with_reducible rfl)))
      simp only [Act.put, List.getElem_toArray, List.getElem_cons_zero, List.getElem_cons_succ, List.setIfInBounds_toArray, List.set_cons_zero, List.set_cons_succ]
      refine wpAnyH_take (i := 30) (v := ?_) rfl (by kernel_rfl) (by kernel_rfl) (by kernel_rfl) (fun _ _ _ h => h) (Or.inl ⟨by rfl, ?_⟩) (by assumption) ?_
      rotate_left
      focus ((intro wS hSw; (try dsimp only at hSw); go_simp); (try (with_reducible rfl)))
      simp only [Act.put, List.getElem_toArray, List.getElem_cons_zero, List.getElem_cons_succ, List.setIfInBounds_toArray, List.set_cons_zero, List.set_cons_succ]
      refine wpAnyH_take (i := 31) (v := ?_) rfl (by kernel_rfl) (by kernel_rfl) (by kernel_rfl) (fun _ _ _ h => h) (Or.inl ⟨by rfl, ?_⟩) (by assumption) ?_
      rotate_left
      focus ((intro wS hSw; (try dsimp only at hSw); go_simp); (try (with_reducible rfl)))
      simp only [Act.put, List.getElem_toArray, List.getElem_cons_zero, List.getElem_cons_succ, List.setIfInBounds_toArray, List.set_cons_zero, List.set_cons_succ]
      refine wpAnyH_take (i := 32) (v := ?_) rfl (by kernel_rfl) (by kernel_rfl) (by kernel_rfl) (fun _ _ _ h => h) (Or.inl ⟨by rfl, ?_⟩) (by assumption) ?_
      rotate_left
      focus ((intro wS hSw; (try dsimp only at hSw); go_simp); (try (with_reducible rfl)))
      simp only [Act.put, List.getElem_toArray, List.getElem_cons_zero, List.getElem_cons_succ, List.setIfInBounds_toArray, List.set_cons_zero, List.set_cons_succ]
      refine wpAnyH_take (i := 33) (v := ?_) rfl (by kernel_rfl) (by kernel_rfl) (by kernel_rfl) (fun _ _ _ h => h) (Or.inl ⟨by rfl, ?_⟩) (by assumption) ?_
      rotate_left
      focus ((intro wS hSw; (try dsimp only at hSw); go_simp); (try (with_reducible rfl)))
      simp only [Act.put, List.getElem_toArray, List.getElem_cons_zero, List.getElem_cons_succ, List.setIfInBounds_toArray, List.set_cons_zero, List.set_cons_succ]
      refine wpAnyH_take (i := 34) (v := ?_) rfl (by kernel_rfl) (by kernel_rfl) (by kernel_rfl) (fun _ _ _ h => h) (Or.inl ⟨by rfl, ?_⟩) (by assumption) ?_
      rotate_left
      focus ((intro wS hSw; (try dsimp only at hSw); go_simp); (try (with_reducible rfl)))
      simp only [Act.put, List.getElem_toArray, List.getElem_cons_zero, List.getElem_cons_succ, List.setIfInBounds_toArray, List.set_cons_zero, List.set_cons_succ]
      refine wpAnyH_take (i := 35) (v := ?_) rfl (by kernel_rfl) (by kernel_rfl) (by kernel_rfl) (fun _ _ _ h => h) (Or.inl ⟨by rfl, ?_⟩) (by assumption) ?_
      rotate_left
      focus ((intro wS hSw; (try dsimp only at hSw); go_simp); (try (with_reducible rfl)))
      simp only [Act.put, List.getElem_toArray, List.getElem_cons_zero, List.getElem_cons_succ, List.setIfInBounds_toArray, List.set_cons_zero, List.set_cons_succ]
      refine wpAnyH_take (i := 36) (v := ?_) rfl (by kernel_rfl) (by kernel_rfl) (by kernel_rfl) (fun _ _ _ h => h) (Or.inl ⟨by rfl, ?_⟩) (by assumption) ?_
      rotate_left
      focus ((intro wS hSw; (try dsimp only at hSw); go_simp); (try (with_reducible rfl)))
      simp only [Act.put, List.getElem_toArray, List.getElem_cons_zero, List.getElem_cons_succ, List.setIfInBounds_toArray, List.set_cons_zero, List.set_cons_succ]
      have hw1 := HW1.out
      refine wpAnyH_take (i := 37) (v := ?_) rfl (by kernel_rfl) (by kernel_rfl) (by kernel_rfl) (fun _ _ _ h => h) (Or.inl ⟨by rfl, ?_⟩) (by assumption) ?_
      rotate_left
      focus ((intro wS hSw; (try dsimp only at hSw); go_simp); (try (with_reducible rfl)))
      simp only [Act.put, List.getElem_toArray, List.getElem_cons_zero, List.getElem_cons_succ, List.setIfInBounds_toArray, List.set_cons_zero, List.set_cons_succ]
      refine wpAnyH_take (i := 38) (v := ?_) rfl (by kernel_rfl) (by kernel_rfl) (by kernel_rfl) (fun _ _ _ h => h) (Or.inl ⟨by rfl, ?_⟩) (by assumption) ?_
      rotate_left
      focus ((intro wS hSw; (try dsimp only at hSw); go_simp); (try (with_reducible rfl)))
      simp only [Act.put, List.getElem_toArray, List.getElem_cons_zero, List.getElem_cons_succ, List.setIfInBounds_toArray, List.set_cons_zero, List.set_cons_succ]
      clear hw1
      refine wpAnyH_take (i := 39) (v := ?_) rfl (by kernel_rfl) (by kernel_rfl) (by kernel_rfl) (fun _ _ _ h => h) (Or.inl ⟨by rfl, ?_⟩) (by assumption) ?_
      rotate_left
      focus ((intro wS hSw; (try dsimp only at hSw); go_simp); (try (with_reducible rfl)))
      simp only [Act.put, List.getElem_toArray, List.getElem_cons_zero, List.getElem_cons_succ, List.setIfInBounds_toArray, List.set_cons_zero, List.set_cons_succ]
      refine wpAnyH_take (i := 40) (v := ?_) rfl (by kernel_rfl) (by kernel_rfl) (by kernel_rfl) (fun _ _ _ h => h) (Or.inl ⟨by rfl, ?_⟩) (by assumption) ?_
      rotate_left
      focus ((intro wS hSw; (try dsimp only at hSw); go_simp); (try (with_reducible rfl)))
      simp only [Act.put, List.getElem_toArray, List.getElem_cons_zero, List.getElem_cons_succ, List.setIfInBounds_toArray, List.set_cons_zero, List.set_cons_succ]
      refine wpAnyH_done (by kernel_rfl) ?_ _
      clear hHeld
      go_wp2_with fail
      go_ret
      exact ⟨rfl, (HF8.out _ (Below.onto HE3.out HB9.out)).1, (HF8.out _ (Below.onto HE3.out HB9.out)).2⟩
    · refine wp_region_held_drew (S := (fun w' => Below wc.heap.size wc w' ∧ w'.cell? ⟨kb, 0, none⟩ = some (.int .i64 q.a) ∧ w'.cell? ⟨kb, 1, none⟩ = some (.int .i64 q.b) ∧ w'.cell? ⟨kb, 2, none⟩ = some (.int .i64 q.wd) ∧ w'.cell? ⟨b7, 0, none⟩ = some (.int .i64 p1) ∧ w'.cell? ⟨b7, 1, none⟩ = some (.int .i64 p2))) (by kernel_rfl) (HKc.out _ ((Below.refl _ _).drew)) (fun hHeld => ?_)
      refine wpAnyH_take (i := 0) (v := ?_) rfl (by kernel_rfl) (by kernel_rfl) (by kernel_rfl) (fun _ _ _ h => h) (Or.inl ⟨by rfl, ?_⟩) (by assumption) ?_
      rotate_left
      focus ((intro wS hSw; (try dsimp only at hSw); go_simp); (try (with_reducible rfl)))
      simp only [Act.put, List.getElem_toArray, List.getElem_cons_zero, List.getElem_cons_succ, List.setIfInBounds_toArray, List.set_cons_zero, List.set_cons_succ]
      refine wpAnyH_take (i := 1) (v := ?_) rfl (by kernel_rfl) (by kernel_rfl) (by kernel_rfl) (fun _ _ _ h => h) (Or.inl ⟨by rfl, ?_⟩) (by assumption) ?_
      rotate_left
      focus ((intro wS hSw; (try dsimp only at hSw); go_simp); (try (with_reducible rfl)))
      simp only [Act.put, List.getElem_toArray, List.getElem_cons_zero, List.getElem_cons_succ, List.setIfInBounds_toArray, List.set_cons_zero, List.set_cons_succ]
      refine wpAnyH_take (i := 2) (v := ?_) rfl (by kernel_rfl) (by kernel_rfl) (by kernel_rfl) (fun _ _ _ h => h) (Or.inl ⟨by rfl, ?_⟩) (by assumption) ?_
      rotate_left
      focus ((intro wS hSw; (try dsimp only at hSw); go_simp); (try (with_reducible rfl)))
      simp only [Act.put, List.getElem_toArray, List.getElem_cons_zero, List.getElem_cons_succ, List.setIfInBounds_toArray, List.set_cons_zero, List.set_cons_succ]
      refine wpAnyH_take (i := 3) (v := ?_) rfl (by kernel_rfl) (by kernel_rfl) (by kernel_rfl) (fun _ _ _ h => h) (Or.inl ⟨by rfl, ?_⟩) (by assumption) ?_
      rotate_left
      focus ((intro wS hSw; (try dsimp only at hSw); go_simp); (try (with_reducible rfl)))
      simp only [Act.put, List.getElem_toArray, List.getElem_cons_zero, List.getElem_cons_succ, List.setIfInBounds_toArray, List.set_cons_zero, List.set_cons_succ]
      refine wpAnyH_take (i := 4) (v := ?_) rfl (by kernel_rfl) (by kernel_rfl) (by kernel_rfl) (fun _ _ _ h => h) (Or.inl ⟨by rfl, ?_⟩) (by assumption) ?_
      rotate_left
      focus ((intro wS hSw; (try dsimp only at hSw); go_simp); (try (with_reducible rfl)))
      simp only [Act.put, List.getElem_toArray, List.getElem_cons_zero, List.getElem_cons_succ, List.setIfInBounds_toArray, List.set_cons_zero, List.set_cons_succ]
      refine wpAnyH_take (i := 5) (v := ?_) rfl (by kernel_rfl) (by kernel_rfl) (by kernel_rfl) (fun _ _ _ h => h) (Or.inl ⟨by rfl, ?_⟩) (by assumption) ?_
      rotate_left
      focus ((intro wS hSw; (try dsimp only at hSw); go_simp); (try (with_reducible rfl)))
      simp only [Act.put, List.getElem_toArray, List.getElem_cons_zero, List.getElem_cons_succ, List.setIfInBounds_toArray, List.set_cons_zero, List.set_cons_succ]
      refine wpAnyH_take (i := 6) (v := ?_) rfl (by kernel_rfl) (by kernel_rfl) (by kernel_rfl) (fun _ _ _ h => h) (Or.inl ⟨by rfl, ?_⟩) (by assumption) ?_
      rotate_left
      focus ((intro wS hSw; (try dsimp only at hSw); go_simp); (try (with_reducible rfl)))
      simp only [Act.put, List.getElem_toArray, List.getElem_cons_zero, List.getElem_cons_succ, List.setIfInBounds_toArray, List.set_cons_zero, List.set_cons_succ]
      refine wpAnyH_take (i := 7) (v := ?_) rfl (by kernel_rfl) (by kernel_rfl) (by kernel_rfl) (fun _ _ _ h => h) (Or.inl ⟨by rfl, ?_⟩) (by assumption) ?_
      rotate_left
      focus ((intro wS hSw; (try dsimp only at hSw); go_simp); (try (with_reducible rfl)))
      simp only [Act.put, List.getElem_toArray, List.getElem_cons_zero, List.getElem_cons_succ, List.setIfInBounds_toArray, List.set_cons_zero, List.set_cons_succ]
      refine wpAnyH_take (i := 8) (v := ?_) rfl (by kernel_rfl) (by kernel_rfl) (by kernel_rfl) (fun _ _ _ h => h) (Or.inl ⟨by rfl, ?_⟩) (by assumption) ?_
      rotate_left
      focus ((intro wS hSw; (try dsimp only at hSw); go_simp); (try (with_reducible rfl)))
      simp only [Act.put, List.getElem_toArray, List.getElem_cons_zero, List.getElem_cons_succ, List.setIfInBounds_toArray, List.set_cons_zero, List.set_cons_succ]
      refine wpAnyH_take (i := 9) (v := ?_) rfl (by kernel_rfl) (by kernel_rfl) (by kernel_rfl) (fun _ _ _ h => h) (Or.inl ⟨by rfl, ?_⟩) (by assumption) ?_
      rotate_left
      focus ((intro wS hSw; (try dsimp only at hSw); go_simp); (try (with_reducible rfl)))
      simp only [Act.put, List.getElem_toArray, List.getElem_cons_zero, List.getElem_cons_succ, List.setIfInBounds_toArray, List.set_cons_zero, List.set_cons_succ]
      refine wpAnyH_ready (rs := [10]) (by kernel_rfl) (by simp) ?_
      refine AllReadyH.cons rfl (fun K hK => ?_) AllReadyH.nil
      go_simp
      refine (HL2.out _).mono ?_
      rintro e wx3 ⟨rfl, hbx⟩
      have HE3 := Lib.hid (show Below wc.heap.size wc wx3 from Below.drewL hbx)
      clear hbx
      refine hK.out _ _ (HKc.out _ HE3.out) (fun hHeld => ?_)
      clear hK K
      (try simp only [Act.put, List.getElem_toArray, List.getElem_cons_zero, List.getElem_cons_succ, List.setIfInBounds_toArray, List.set_cons_zero, List.set_cons_succ])
      refine wpAnyH_take (i := 11) (v := ?_) rfl (by kernel_rfl) (by kernel_rfl) (by kernel_rfl) (fun _ _ _ h => h) (Or.inl ⟨by rfl, ?_⟩) (by assumption) ?_
      rotate_left
      focus ((intro wS hSw; (try dsimp only at hSw); go_simp); (try (with_reducible rfl)))
      simp only [Act.put, List.getElem_toArray, List.getElem_cons_zero, List.getElem_cons_succ, List.setIfInBounds_toArray, List.set_cons_zero, List.set_cons_succ]
      refine wpAnyH_take (i := 12) (v := ?_) rfl (by kernel_rfl) (by kernel_rfl) (by kernel_rfl) (fun _ _ _ h => h) (Or.inl ⟨by rfl, ?_⟩) (by assumption) ?_
      rotate_left
      focus ((intro wS hSw; (try dsimp only at hSw); go_simp); (try (with_reducible rfl)))
      simp only [Act.put, List.getElem_toArray, List.getElem_cons_zero, List.getElem_cons_succ, List.setIfInBounds_toArray, List.set_cons_zero, List.set_cons_succ]
      refine wpAnyH_take (i := 13) (v := ?_) rfl (by kernel_rfl) (by kernel_rfl) (by kernel_rfl) (fun _ _ _ h => h) (Or.inl ⟨by rfl, ?_⟩) (by assumption) ?_
      rotate_left
      focus ((intro wS hSw; (try dsimp only at hSw); go_simp); (try (with_reducible rfl)))
      simp only [Act.put, List.getElem_toArray, List.getElem_cons_zero, List.getElem_cons_succ, List.setIfInBounds_toArray, List.set_cons_zero, List.set_cons_succ]
      refine wpAnyH_take (i := 14) (v := ?_) rfl (by kernel_rfl) (by kernel_rfl) (by kernel_rfl) (fun _ _ _ h => h) (Or.inl ⟨by rfl, ?_⟩) (by assumption) ?_
      rotate_left
      focus ((intro wS hSw; (try dsimp only at hSw); go_simp); (try (with_reducible rfl)))
      simp only [Act.put, List.getElem_toArray, List.getElem_cons_zero, List.getElem_cons_succ, List.setIfInBounds_toArray, List.set_cons_zero, List.set_cons_succ]
      refine wpAnyH_take (i := 15) (v := ?_) rfl (by kernel_rfl) (by kernel_rfl) (by kernel_rfl) (fun _ _ _ h => h) (Or.inl ⟨by rfl, ?_⟩) (by assumption) ?_
      rotate_left
      focus ((intro wS hSw; (try dsimp only at hSw); go_simp); (try (with_reducible rfl)))
      simp only [Act.put, List.getElem_toArray, List.getElem_cons_zero, List.getElem_cons_succ, List.setIfInBounds_toArray, List.set_cons_zero, List.set_cons_succ]
      refine wpAnyH_take (i := 16) (v := ?_) rfl (by kernel_rfl) (by kernel_rfl) (by kernel_rfl) (fun _ _ _ h => h) (Or.inl ⟨by rfl, ?_⟩) (by assumption) ?_
      rotate_left
      focus ((intro wS hSw; (try dsimp only at hSw); go_simp); (try (with_reducible rfl)))
      simp only [Act.put, List.getElem_toArray, List.getElem_cons_zero, List.getElem_cons_succ, List.setIfInBounds_toArray, List.set_cons_zero, List.set_cons_succ]
      refine wpAnyH_take (i := 17) (v := ?_) rfl (by kernel_rfl) (by kernel_rfl) (by kernel_rfl) (fun _ _ _ h => h) (Or.inl ⟨by rfl, ?_⟩) (by assumption) ?_
      rotate_left
      focus ((intro wS hSw; (try dsimp only at hSw); go_simp); (try (with_reducible rfl)))
      simp only [Act.put, List.getElem_toArray, List.getElem_cons_zero, List.getElem_cons_succ, List.setIfInBounds_toArray, List.set_cons_zero, List.set_cons_succ]
      refine wpAnyH_take (i := 18) (v := ?_) rfl (by kernel_rfl) (by kernel_rfl) (by kernel_rfl) (fun _ _ _ h => h) (Or.inl ⟨by rfl, ?_⟩) (by assumption) ?_
      rotate_left
      focus ((intro wS hSw; (try dsimp only at hSw); go_simp); (try (with_reducible rfl)))
      simp only [Act.put, List.getElem_toArray, List.getElem_cons_zero, List.getElem_cons_succ, List.setIfInBounds_toArray, List.set_cons_zero, List.set_cons_succ]
      refine wpAnyH_take (i := 19) (v := ?_) rfl (by kernel_rfl) (by kernel_rfl) (by kernel_rfl) (fun _ _ _ h => h) (Or.inl ⟨by rfl, ?_⟩) (by assumption) ?_
      rotate_left
      focus ((intro wS hSw; (try dsimp only at hSw); go_simp); (try (with_reducible rfl)))
      simp only [Act.put, List.getElem_toArray, List.getElem_cons_zero, List.getElem_cons_succ, List.setIfInBounds_toArray, List.set_cons_zero, List.set_cons_succ]
      refine wpAnyH_take (i := 20) (v := ?_) rfl (by kernel_rfl) (by kernel_rfl) (by kernel_rfl) (fun _ _ _ h => h) (Or.inl ⟨by rfl, ?_⟩) (by assumption) ?_
      rotate_left
      focus ((intro wS hSw; (try dsimp only at hSw); go_simp); (try (with_reducible rfl)))
      simp only [Act.put, List.getElem_toArray, List.getElem_cons_zero, List.getElem_cons_succ, List.setIfInBounds_toArray, List.set_cons_zero, List.set_cons_succ]
      refine wpAnyH_take (i := 21) (v := ?_) rfl (by kernel_rfl) (by kernel_rfl) (by kernel_rfl) (fun _ _ _ h => h) (Or.inl ⟨by rfl, ?_⟩) (by assumption) ?_
      rotate_left
      focus ((intro wS hSw; (try dsimp only at hSw); go_simp); (try (with_reducible rfl)))
      simp only [Act.put, List.getElem_toArray, List.getElem_cons_zero, List.getElem_cons_succ, List.setIfInBounds_toArray, List.set_cons_zero, List.set_cons_succ]
      refine wpAnyH_take (i := 22) (v := ?_) rfl (by kernel_rfl) (by kernel_rfl) (by kernel_rfl) (fun _ _ _ h => h) (Or.inl ⟨by rfl, ?_⟩) (by assumption) ?_
      rotate_left
      focus ((intro wS hSw; (try dsimp only at hSw); go_simp); (try (with_reducible rfl)))
      simp only [Act.put, List.getElem_toArray, List.getElem_cons_zero, List.getElem_cons_succ, List.setIfInBounds_toArray, List.set_cons_zero, List.set_cons_succ]
      refine wpAnyH_take (i := 23) (v := ?_) rfl (by kernel_rfl) (by kernel_rfl) (by kernel_rfl) (fun _ _ _ h => h) (Or.inl ⟨by rfl, ?_⟩) (by assumption) ?_
      rotate_left
      focus ((intro wS hSw; (try dsimp only at hSw); go_simp); (try (with_reducible rfl)))
      simp only [Act.put, List.getElem_toArray, List.getElem_cons_zero, List.getElem_cons_succ, List.setIfInBounds_toArray, List.set_cons_zero, List.set_cons_succ]
      refine wpAnyH_take (i := 24) (v := ?_) rfl (by kernel_rfl) (by kernel_rfl) (by kernel_rfl) (fun _ _ _ h => h) (Or.inl ⟨by rfl, ?_⟩) (by assumption) ?_
      rotate_left
      focus ((intro wS hSw; (try dsimp only at hSw); go_simp); (try (with_reducible rfl)))
      simp only [Act.put, List.getElem_toArray, List.getElem_cons_zero, List.getElem_cons_succ, List.setIfInBounds_toArray, List.set_cons_zero, List.set_cons_succ]
      refine wpAnyH_take (i := 25) (v := ?_) rfl (by kernel_rfl) (by kernel_rfl) (by kernel_rfl) (fun _ _ _ h => h) (Or.inl ⟨by rfl, ?_⟩) (by assumption) ?_
      rotate_left
      focus ((intro wS hSw; (try dsimp only at hSw); go_simp); (try (with_reducible rfl)))
      simp only [Act.put, List.getElem_toArray, List.getElem_cons_zero, List.getElem_cons_succ, List.setIfInBounds_toArray, List.set_cons_zero, List.set_cons_succ]
      refine wpAnyH_take (i := 26) (v := ?_) rfl (by kernel_rfl) (by kernel_rfl) (by kernel_rfl) (fun _ _ _ h => h) (Or.inl ⟨by rfl, ?_⟩) (by assumption) ?_
      rotate_left
      focus ((intro wS hSw; (try dsimp only at hSw); go_simp); (try (with_reducible rfl)))
      simp only [Act.put, List.getElem_toArray, List.getElem_cons_zero, List.getElem_cons_succ, List.setIfInBounds_toArray, List.set_cons_zero, List.set_cons_succ]
      refine wpAnyH_take (i := 27) (v := ?_) rfl (by kernel_rfl) (by kernel_rfl) (by kernel_rfl) (fun _ _ _ h => h) (Or.inl ⟨by rfl, ?_⟩) (by assumption) ?_
      rotate_left
      focus ((intro wS hSw; (try dsimp only at hSw); go_simp); (try (with_reducible rfl)))
      simp only [Act.put, List.getElem_toArray, List.getElem_cons_zero, List.getElem_cons_succ, List.setIfInBounds_toArray, List.set_cons_zero, List.set_cons_succ]
      refine wpAnyH_take (i := 28) (v := ?_) rfl (by kernel_rfl) (by kernel_rfl) (by kernel_rfl) (fun _ _ _ h => h) (Or.inl ⟨by rfl, ?_⟩) (by assumption) ?_
      rotate_left
      focus ((intro wS hSw; (try dsimp only at hSw); go_simp); (try (with_reducible rfl)))
      simp only [Act.put, List.getElem_toArray, List.getElem_cons_zero, List.getElem_cons_succ, List.setIfInBounds_toArray, List.set_cons_zero, List.set_cons_succ]
      refine wpAnyH_take (i := 29) (v := ?_) rfl (by kernel_rfl) (by kernel_rfl) (by kernel_rfl) (fun _ _ _ h => h) (Or.inl ⟨by rfl, ?_⟩) (by assumption) ?_
      rotate_left
      focus ((intro wS hSw; (try dsimp only at hSw); go_simp); (try (with_reducible rfl)))
      simp only [Act.put, List.getElem_toArray, List.getElem_cons_zero, List.getElem_cons_succ, List.setIfInBounds_toArray, List.set_cons_zero, List.set_cons_succ]
      refine wpAnyH_take (i := 30) (v := ?_) rfl (by kernel_rfl) (by kernel_rfl) (by kernel_rfl) (fun _ _ _ h => h) (Or.inl ⟨by rfl, ?_⟩) (by assumption) ?_
      rotate_left
      focus ((intro wS hSw; (try dsimp only at hSw); go_simp); (try (with_reducible rfl)))
      simp only [Act.put, List.getElem_toArray, List.getElem_cons_zero, List.getElem_cons_succ, List.setIfInBounds_toArray, List.set_cons_zero, List.set_cons_succ]
      refine wpAnyH_take (i := 31) (v := ?_) rfl (by kernel_rfl) (by kernel_rfl) (by kernel_rfl) (fun _ _ _ h => h) (Or.inl ⟨by rfl, ?_⟩) (by assumption) ?_
      rotate_left
      focus ((intro wS hSw; (try dsimp only at hSw); go_simp); (try (with_reducible rfl)))
      simp only [Act.put, List.getElem_toArray, List.getElem_cons_zero, List.getElem_cons_succ, List.setIfInBounds_toArray, List.set_cons_zero, List.set_cons_succ]
      refine wpAnyH_take (i := 32) (v := ?_) rfl (by kernel_rfl) (by kernel_rfl) (by kernel_rfl) (fun _ _ _ h => h) (Or.inl ⟨by rfl, ?_⟩) (by assumption) ?_
      rotate_left
      focus ((intro wS hSw; (try dsimp only at hSw); go_simp); (try (with_reducible rfl)))
      simp only [Act.put, List.getElem_toArray, List.getElem_cons_zero, List.getElem_cons_succ, List.setIfInBounds_toArray, List.set_cons_zero, List.set_cons_succ]
      refine wpAnyH_take (i := 33) (v := ?_) rfl (by kernel_rfl) (by kernel_rfl) (by kernel_rfl) (fun _ _ _ h => h) (Or.inl ⟨by rfl, ?_⟩) (by assumption) ?_
      rotate_left
      focus ((intro wS hSw; (try dsimp only at hSw); go_simp); (try (with_reducible rfl)))
      simp only [Act.put, List.getElem_toArray, List.getElem_cons_zero, List.getElem_cons_succ, List.setIfInBounds_toArray, List.set_cons_zero, List.set_cons_succ]
      refine wpAnyH_take (i := 34) (v := ?_) rfl (by kernel_rfl) (by kernel_rfl) (by kernel_rfl) (fun _ _ _ h => h) (Or.inl ⟨by rfl, ?_⟩) (by assumption) ?_
      rotate_left
      focus ((intro wS hSw; (try dsimp only at hSw); go_simp); (try (with_reducible rfl)))
      simp only [Act.put, List.getElem_toArray, List.getElem_cons_zero, List.getElem_cons_succ, List.setIfInBounds_toArray, List.set_cons_zero, List.set_cons_succ]
      refine wpAnyH_take (i := 35) (v := ?_) rfl (by kernel_rfl) (by kernel_rfl) (by kernel_rfl) (fun _ _ _ h => h) (Or.inl ⟨by rfl, ?_⟩) (by assumption) ?_
      rotate_left
      focus ((intro wS hSw; (try dsimp only at hSw); go_simp); (try (with_reducible rfl)))
      simp only [Act.put, List.getElem_toArray, List.getElem_cons_zero, List.getElem_cons_succ, List.setIfInBounds_toArray, List.set_cons_zero, List.set_cons_succ]
      refine wpAnyH_take (i := 36) (v := ?_) rfl (by kernel_rfl) (by kernel_rfl) (by kernel_rfl) (fun _ _ _ h => h) (Or.inl ⟨by rfl, ?_⟩) (by assumption) ?_
      rotate_left
      focus ((intro wS hSw; (try dsimp only at hSw); go_simp); (try (with_reducible rfl)))
      simp only [Act.put, List.getElem_toArray, List.getElem_cons_zero, List.getElem_cons_succ, List.setIfInBounds_toArray, List.set_cons_zero, List.set_cons_succ]
      have hw1 := HW1.out
      refine wpAnyH_take (i := 37) (v := ?_) rfl (by kernel_rfl) (by kernel_rfl) (by kernel_rfl) (fun _ _ _ h => h) (Or.inl ⟨by rfl, ?_⟩) (by assumption) ?_
      rotate_left
      focus ((intro wS hSw; (try dsimp only at hSw); go_simp); (try (with_reducible rfl)))
      simp only [Act.put, List.getElem_toArray, List.getElem_cons_zero, List.getElem_cons_succ, List.setIfInBounds_toArray, List.set_cons_zero, List.set_cons_succ]
      refine wpAnyH_take (i := 38) (v := ?_) rfl (by kernel_rfl) (by kernel_rfl) (by kernel_rfl) (fun _ _ _ h => h) (Or.inl ⟨by rfl, ?_⟩) (by assumption) ?_
      rotate_left
      focus ((intro wS hSw; (try dsimp only at hSw); go_simp); (try (with_reducible rfl)))
      simp only [Act.put, List.getElem_toArray, List.getElem_cons_zero, List.getElem_cons_succ, List.setIfInBounds_toArray, List.set_cons_zero, List.set_cons_succ]
      clear hw1
      refine wpAnyH_take (i := 39) (v := ?_) rfl (by kernel_rfl) (by kernel_rfl) (by kernel_rfl) (fun _ _ _ h => h) (Or.inl ⟨by rfl, ?_⟩) (by assumption) ?_
      rotate_left
      focus ((intro wS hSw; (try dsimp only at hSw); go_simp); (try (with_reducible rfl)))
      simp only [Act.put, List.getElem_toArray, List.getElem_cons_zero, List.getElem_cons_succ, List.setIfInBounds_toArray, List.set_cons_zero, List.set_cons_succ]
      refine wpAnyH_take (i := 40) (v := ?_) rfl (by kernel_rfl) (by kernel_rfl) (by kernel_rfl) (fun _ _ _ h => h) (Or.inl ⟨by rfl, ?_⟩) (by assumption) ?_
      rotate_left
      focus ((intro wS hSw; (try dsimp only at hSw); go_simp); (try (with_reducible rfl)))
      simp only [Act.put, List.getElem_toArray, List.getElem_cons_zero, List.getElem_cons_succ, List.setIfInBounds_toArray, List.set_cons_zero, List.set_cons_succ]
      refine wpAnyH_done (by kernel_rfl) ?_ _
      clear hHeld
      go_wp2_with fail
      go_ret
      exact ⟨rfl, (HF8.out _ (Below.onto HE3.out HB9.out)).1, (HF8.out _ (Below.onto HE3.out HB9.out)).2⟩
    /- ENDFITS -/
end Go.Proofs.Ytnkbbobdhcloeaa
