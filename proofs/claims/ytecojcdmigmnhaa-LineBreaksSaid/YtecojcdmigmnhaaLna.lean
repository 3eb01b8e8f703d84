/- Lines: New, the box beside floats. Lines: what begin asks at a height. (Printed by wip/gen_lb.py.) Lines: begin. (Printed by wip/gen_lc.py.) Lines: Now, End. Lines: Add. Lines: what All makes (plain), and its closure's memory. Lines: All's closure, All. -/
import Derived.Test.YtecojcdmigmnhaaPw
import Derived.Test.YtecojcdmigmnhaaRo
import Derived.Test.YtecojcdmigmnhaaSpf
import Derived.Test.YtecojcdmigmnhaaRw2
import Derived.Deep.RegionHeld3
import Derived.Test.YtecojcdmigmnhaaBd
import Derived.Test.YtecojcdmigmnhaaFst
import Derived.Test.YtecojcdmigmnhaaFa
import Derived.Test.YtecojcdmigmnhaaRg
import Derived.Test.YtecojcdmigmnhaaSg
namespace Go.Proofs.Ytecojcdmigmnhaa
set_option linter.unusedSimpArgs false
set_option linter.unusedVariables false
open Go.RowKit
/- Ln -/
theorem spanInfoL : (Try.prog.info? 61).map (·.size) = some 2 := by kernel_rfl
theorem lineInfo : (Try.prog.info? 65).map (·.size) = some 6 := by kernel_rfl
theorem box5v {w : World} {b : Nat} {x0 x1 x2 x3 x4 : Value} {T : TypeId} (h : w.heap[b]? = some (.cells #[x0, x1, x2, x3, x4] T (0, 0))) :
    w.cell? ⟨b, 0, none⟩ = some x0 ∧ w.cell? ⟨b, 1, none⟩ = some x1 ∧ w.cell? ⟨b, 2, none⟩ = some x2 ∧ w.cell? ⟨b, 3, none⟩ = some x3 ∧ w.cell? ⟨b, 4, none⟩ = some x4 :=
  ⟨cell_of_row w b 0 _ _ (0, 0) h, cell_of_row w b 1 _ _ (0, 0) h, cell_of_row w b 2 _ _ (0, 0) h, cell_of_row w b 3 _ _ (0, 0) h, cell_of_row w b 4 _ _ (0, 0) h⟩
set_option maxRecDepth 20000 in
theorem lnew_any (sp : Nat) (a b y : Int) (w : World) : Calls Try.prog 36 #[.pointer (some ⟨sp, 0, none⟩), .agg #[.int .i64 a, .int .i64 b], .int .i64 y] w fun e w' => ∃ bb, e = .returned (.pointer (some ⟨bb, 0, none⟩)) ∧ w'.heap[bb]? = some (.cells #[.pointer (some ⟨sp, 0, none⟩), .int .i64 a, .int .i64 b, .int .i64 y, .pointer none] 135 (0, 0)) ∧ w.heap.size ≤ bb ∧ Below w.heap.size w w' := by
  go_enter Try.func36, Try.ntmps36
  go_wp2
  go_ret
  refine ⟨w.heap.size + 1, rfl, ?_, by omega, ((Below.refl _ _).alloc (Nat.le_refl _) _).alloc (by simp) _⟩
  exact heap_alloc2_new w _ _
set_option maxRecDepth 20000 in
set_option maxHeartbeats 4000000 in
theorem box_any (L : List Fo) (a b y h : Int) (bb : Nat) (y0 nw : Value) (base sp : Nat) (w : World) (hs : SpaceIs w base sp L) (hk : w.heap[bb]? = some (.cells #[.pointer (some ⟨sp, 0, none⟩), .int .i64 a, .int .i64 b, y0, nw] 135 (0, 0))) (hok : SpOk L) (ha : -1125899906842624 ≤ a ∧ a ≤ 1125899906842624) (hb : -1125899906842624 ≤ b ∧ b ≤ 1125899906842624) (hy : -4503599627370496 ≤ y ∧ y ≤ 2251799813685248) (hh : -1125899906842624 ≤ h ∧ h ≤ 1125899906842624) :
    Calls Try.prog 71 #[.pointer (some ⟨bb, 0, none⟩), .int .i64 y, .int .i64 h] w fun e w' => e = .returned (.agg #[.int .i64 (freeS L a b y h).1, .int .i64 y, .int .i64 (freeS L a b y h).2, .int .i64 (y + h)]) ∧ Below w.heap.size w w' := by
  have hg := hgh_pos h
  have hg2 : hgh h ≤ 1125899906842624 := by unfold hgh; omega
  have hrw := fun w => srows_any y h w (by omega) (by omega)
  have hfr := fun w hw => free_any L a b y (y + hgh h) base sp w hw hok (by unfold Mid; omega) (by unfold Mid; omega) (by unfold far; omega)
  unfold SpanPost at hrw hfr
  unfold freeS bnds
  obtain ⟨yb, hyb⟩ : ∃ b, y + hgh h = b := ⟨_, rfl⟩
  rw [hyb] at hfr ⊢
  simp only [hyb] at hrw
  obtain ⟨r1, hr1⟩ : ∃ r, max a (band L y yb).1 = r := ⟨_, rfl⟩
  obtain ⟨r2, hr2⟩ : ∃ r, min b (band L y yb).2 = r := ⟨_, rfl⟩
  rw [hr1, hr2] at hfr ⊢
  obtain ⟨W1, hW1⟩ : ∃ W, w.alloc (.cells #[.int .i64 0, .int .i64 0, .int .i64 0, .int .i64 0] 52) = W := ⟨_, rfl⟩
  obtain ⟨b6, hb6⟩ : ∃ b, w.heap.size = b := ⟨_, rfl⟩
  have g6 : W1.heap[b6]? = some (.cells #[.int .i64 0, .int .i64 0, .int .i64 0, .int .i64 0] 52 (0, 0)) := by rw [← hW1, ← hb6]; exact heap_alloc_new w _
  have hB1 : Below w.heap.size w W1 := by rw [← hW1]; exact (Below.refl _ _).alloc (Nat.le_refl _) _
  have hk1 := blk_keep hk hB1
  have HS1 := Lib.hid (hs.below hB1 (Nat.le_refl _))
  have HRW := Lib.hid hrw
  have HFR := Lib.hid hfr
  have HW1 := Lib.hid hW1
  have HBN := Lib.hid hb6
  have HB1 := Lib.hid hB1
  have G6 := Lib.hid g6
  have HK : Hid (∀ w' : World, Below W1.heap.size W1 w' → (Below W1.heap.size W1 w' ∧ w'.cell? ⟨bb, 0, none⟩ = some (.pointer (some ⟨sp, 0, none⟩)) ∧ w'.cell? ⟨bb, 1, none⟩ = some (.int .i64 a) ∧ w'.cell? ⟨bb, 2, none⟩ = some (.int .i64 b))) := fun w' e =>
    have h1 := box5v (blk_keep hk1 e)
    ⟨e, h1.1, h1.2.1, h1.2.2.1⟩
  clear hrw hfr hW1 hb6 hB1 g6 hk1 hk hs hok hr1 hr2 hyb hg hg2
  go_enter Try.func71, Try.ntmps71
  go_wp2_with fail
  rw [HW1.out, HBN.out]
  (try simp only [Act.put])
  go_cut [7] (fun p7 wd => ∃ b7 : Nat, p7 = .pointer (some ⟨b7, 0, none⟩) ∧ wd.heap[b7]? = some (.cells #[.int .i64 r1, .int .i64 r2] 61 (0, 0)) ∧ Below W1.heap.size W1 wd)
  case first =>
    go_region_held3 (fun w' => Below W1.heap.size W1 w' ∧ w'.cell? ⟨bb, 0, none⟩ = some (.pointer (some ⟨sp, 0, none⟩)) ∧ w'.cell? ⟨bb, 1, none⟩ = some (.int .i64 a) ∧ w'.cell? ⟨bb, 2, none⟩ = some (.int .i64 b))
      (first | exact HK.out _ (Below.refl _ _) | exact HK.out _ ((Below.refl _ _).drew) | exact HK.out _ HE1.out | exact HK.out _ HE2.out | (refine HK.out _ ?_; (repeat (first | exact HE2.out | exact HE1.out | exact Below.refl _ _ | (refine Below.alloc ?_ (by first | omega | (simp; done) | (simp; omega)) _) | (refine Below.drew ?_) | (refine Below.setCell ?_ (by first | omega | (simp; done) | (simp; omega)) _)))))
      (first
        | ((with_reducible refine (HRW.out _).mono ?_); rintro e wx1 ⟨rfl, hbx⟩; have HBx1 := Lib.hid hbx; have HE1 := Lib.hid (Below.onto hbx (And.left (by assumption))); have he1 := HE1.out.size; have hzx1 := hbx.size; obtain ⟨hcx1, hfx1⟩ := bcell hbx; (try simp [Nat.add_one_le_iff] at hzx1); clear hbx)
        | ((with_reducible refine (HFR.out _ (HS1.out.below (And.left (by assumption)) (Nat.le_refl _))).mono ?_); rintro e wx2 ⟨rfl, hbx⟩; have HBx2 := Lib.hid hbx; have HE2 := Lib.hid (Below.onto hbx (And.left (by assumption))); have he2 := HE2.out.size; have hzx2 := hbx.size; obtain ⟨hcx2, hfx2⟩ := bcell hbx; (try simp [Nat.add_one_le_iff] at hzx2); clear hbx))
    all_goals
      rename_i hH
      have HF := Lib.hid hH.1
      clear hH
      go_wp2_with fail
      go_meet
      case rel =>
        first
        | exact ⟨_, rfl, heap_alloc_new wx2 _, HF.out⟩
        | exact ⟨_, rfl, heap_setCell_same _ _ 1 _ _ _ (heap_setCell_same _ _ 0 _ _ _ (blk_keep (show (wx1.alloc (.cells #[.int .i64 0, .int .i64 0] 61)).heap[wx1.heap.size]? = _ from heap_alloc_new wx1 _) HBx2.out)), HF.out⟩
        | exact ⟨_, rfl, heap_setCell_same _ _ 1 _ _ _ (heap_setCell_same _ _ 0 _ _ _ (blk_keep (blk_keep (show (W1.alloc (.cells #[.int .i64 0, .int .i64 0] 61)).drew.heap[W1.heap.size]? = _ from heap_alloc_new W1 _) HBx1.out) HBx2.out)), HF.out⟩
        | trace_state; sorry
  obtain ⟨b7, rfl, hv7, hb7⟩ := hcut
  have u0 : wc.cell? ⟨b7, 0, none⟩ = some (.int .i64 r1) := cell_of_row wc b7 0 _ _ (0, 0) hv7
  have u1 : wc.cell? ⟨b7, 1, none⟩ = some (.int .i64 r2) := cell_of_row wc b7 1 _ _ (0, 0) hv7
  have HGc := Lib.hid (blk_keep G6.out hb7)
  have HBc := Lib.hid (Below.onto hb7 HB1.out)
  clear hv7 hb7 HK
  go_wp2_with fail
  refine (rof_any _ _ _ _ _).mono ?_
  rintro e w5 ⟨rfl, hb5⟩
  have R5 := Lib.hid (blk_keep HGc.out hb5)
  have HB5 := Lib.hid (Below.onto hb5 HBc.out)
  clear hb5 u0 u1
  go_wp2_with (first
    | ((with_reducible refine store_row (dst := none) 52 (.tmp 6) (.tmp 26) b6 _ #[.int .i64 r1, .int .i64 y, .int .i64 r2, .int .i64 (y + h)] 52 R5.out ?_ ?_ ?_ ?_ ?_ ?_); rfl; rfl; exact rectInfo; rfl; (simp [Value.oneCell']); intro w6 hw6 hg6 hz7; have HW6 := Lib.hid hw6; have HG6 := Lib.hid hg6; clear hw6 hg6))
  have d0 := cell_of_row w6 b6 0 _ _ (0, 0) HW6.out
  have d1 := cell_of_row w6 b6 1 _ _ (0, 0) HW6.out
  have d2 := cell_of_row w6 b6 2 _ _ (0, 0) HW6.out
  have d3 := cell_of_row w6 b6 3 _ _ (0, 0) HW6.out
  refine bodyPost_ret (v := .agg #[.int .i64 r1, .int .i64 y, .int .i64 r2, .int .i64 (y + h)]) (by simp [results, Try.results71, go_sem, d0, d1, d2, d3]) rfl ⟨rfl, HB5.out.grown HG6.out (by have := HB5.out.size; omega) (fun k hk => by have := HBN.out; simp at hk; omega)⟩
/- Lb -/
def soLn (L : List Fo) (a b wd h y : Int) : Bool := decide (wd ≤ (freeS L a b y h).2 - (freeS L a b y h).1 ∨ (b - a < wd ∧ (bnds L y h).1 ≤ a ∧ b ≤ (bnds L y h).2))
theorem lso_cases (wd r1 r2 a b p1 p2 : Int) (s : Bool) (hs : s = decide (wd ≤ r2 - r1 ∨ (b - a < wd ∧ p1 ≤ a ∧ b ≤ p2))) :
    (decide (wd ≤ r2 - r1) = true ∧ s = true) ∨ (decide (wd ≤ r2 - r1) = false ∧ decide (b - a < wd) = false ∧ s = false) ∨ (decide (wd ≤ r2 - r1) = false ∧ decide (b - a < wd) = true ∧ max p1 a = a ∧ min p2 b = b ∧ s = true) ∨ (decide (wd ≤ r2 - r1) = false ∧ decide (b - a < wd) = true ∧ ¬ (max p1 a = a ∧ min p2 b = b) ∧ s = false) := by
  by_cases h1 : wd ≤ r2 - r1
  · left; exact ⟨decide_eq_true h1, by rw [hs]; exact decide_eq_true (.inl h1)⟩
  · right
    by_cases h2 : b - a < wd
    · right
      by_cases h3 : p1 ≤ a ∧ b ≤ p2
      · left; exact ⟨decide_eq_false h1, decide_eq_true h2, by omega, by omega, by rw [hs]; exact decide_eq_true (.inr ⟨h2, h3⟩)⟩
      · right; exact ⟨decide_eq_false h1, decide_eq_true h2, by omega, by rw [hs]; exact decide_eq_false (by omega)⟩
    · left; exact ⟨decide_eq_false h1, decide_eq_false h2, by rw [hs]; exact decide_eq_false (by omega)⟩
set_option maxRecDepth 20000 in
set_option maxHeartbeats 4000000 in
theorem lso_any (L : List Fo) (a b wd h y : Int) (bb bz bp : Nat) (y0 nw : Value) (TZ TP : TypeId) (base sp : Nat) (w : World) (hs : SpaceIs w base sp L) (gb : w.heap[bb]? = some (.cells #[.pointer (some ⟨sp, 0, none⟩), .int .i64 a, .int .i64 b, y0, nw] 135 (0, 0))) (gz : w.heap[bz]? = some (.cells #[.int .i64 wd, .int .i64 h] TZ (0, 0))) (gp : w.heap[bp]? = some (.cells #[.pointer (some ⟨bb, 0, none⟩)] TP (0, 0)))
    (hok : SpOk L) (hsm : ∀ f ∈ L, smallF f = true) (ha : -1125899906842624 ≤ a ∧ a ≤ 1125899906842624) (hb : -1125899906842624 ≤ b ∧ b ≤ 1125899906842624) (hy : -4503599627370496 ≤ y ∧ y ≤ 2251799813685248) (hh : -1125899906842624 ≤ h ∧ h ≤ 1125899906842624) :
    Calls Try.prog 97 #[.int .i64 y, .pointer (some ⟨bz, 0, none⟩), .pointer (some ⟨bp, 0, none⟩)] w fun e w' => e = .returned (.bool (soLn L a b wd h y)) ∧ Below w.heap.size w w' := by
  have hg := hgh_pos h
  have hg2 : hgh h ≤ 1125899906842624 := by unfold hgh; omega
  have hbx := fun w hw hk => box_any L a b y h bb y0 nw base sp w hw hk hok ha hb hy hh
  have hrw := fun w => srows_any y h w (by omega) (by omega)
  have hbd := fun w hw => bounds10_any L y (y + hgh h) base sp w hw hok (by unfold Mid; omega) (by unfold Mid; omega) (by unfold far; omega)
  have hed := bnds_edge hsm y h
  have hcp := fun p1 p2 w => clip_any p1 p2 a b w
  have hl2 := fun w => slen_any a b w (by unfold Mid; omega) (by unfold Mid; omega)
  unfold SpanPost at hrw hbd
  unfold soLn
  obtain ⟨sv, hsv⟩ : ∃ s, decide (wd ≤ (freeS L a b y h).2 - (freeS L a b y h).1 ∨ (b - a < wd ∧ (bnds L y h).1 ≤ a ∧ b ≤ (bnds L y h).2)) = s := ⟨_, rfl⟩
  rw [hsv]
  unfold freeS at hbx hsv
  unfold bnds at hbx hsv hed
  obtain ⟨yb, hyb⟩ : ∃ b, y + hgh h = b := ⟨_, rfl⟩
  rw [hyb] at hbx hsv hbd hed
  simp only [hyb] at hrw
  generalize band L y yb = p at *
  obtain ⟨p1, p2⟩ := p
  simp only at hbx hsv hbd hed
  obtain ⟨r1, hr1⟩ : ∃ r, max a p1 = r := ⟨_, rfl⟩
  obtain ⟨r2, hr2⟩ : ∃ r, min b p2 = r := ⟨_, rfl⟩
  rw [hr1, hr2] at hbx hsv
  unfold far at hed
  have hl1 := fun w => slen_any r1 r2 w (by unfold Mid; omega) (by unfold Mid; omega)
  have hcm := fun y2 w => columns_any r1 y r2 y2 w
  have hcs := lso_cases wd r1 r2 a b p1 p2 sv hsv.symm
  have hcp := fun w => hcp p1 p2 w
  have HBX := Lib.hid hbx
  have HRW := Lib.hid hrw
  have HBD := Lib.hid hbd
  have HCP := Lib.hid hcp
  have HL1 := Lib.hid hl1
  have HL2 := Lib.hid hl2
  have HCM := Lib.hid hcm
  have HCS := Lib.hid hcs
  have HSP : Hid (∀ w', Below w.heap.size w w' → SpaceIs w' base sp L) := fun w' hb => hs.below hb (Nat.le_refl _)
  have HGB : Hid (∀ w', Below w.heap.size w w' → w'.heap[bb]? = some (.cells #[.pointer (some ⟨sp, 0, none⟩), .int .i64 a, .int .i64 b, y0, nw] 135 (0, 0))) := fun w' hb => blk_keep gb hb
  have HGZ : Hid (∀ w', Below w.heap.size w w' → w'.heap[bz]? = some (.cells #[.int .i64 wd, .int .i64 h] TZ (0, 0))) := fun w' hb => blk_keep gz hb
  have HGP : Hid (∀ w', Below w.heap.size w w' → w'.heap[bp]? = some (.cells #[.pointer (some ⟨bb, 0, none⟩)] TP (0, 0))) := fun w' hb => blk_keep gp hb
  have HK : Hid (∀ w' : World, Below w.heap.size w w' → (Below w.heap.size w w' ∧ w'.cell? ⟨bz, 0, none⟩ = some (.int .i64 wd) ∧ w'.cell? ⟨bz, 1, none⟩ = some (.int .i64 h) ∧ w'.cell? ⟨bp, 0, none⟩ = some (.pointer (some ⟨bb, 0, none⟩)))) := fun w' e =>
    ⟨e, cell_of_row w' bz 0 _ _ (0, 0) (HGZ.out w' e), cell_of_row w' bz 1 _ _ (0, 0) (HGZ.out w' e), cell_of_row w' bp 0 _ _ (0, 0) (HGP.out w' e)⟩
  clear hbx hrw hbd hcp hl1 hl2 hcm hcs hs gb gz gp hok hsm hsv hr1 hr2 hyb hg hg2 hed
  go_enter Try.func97, Try.ntmps97
  go_wp2_with fail
  go_region_held3 (fun w' => Below w.heap.size w w' ∧ w'.cell? ⟨bz, 0, none⟩ = some (.int .i64 wd) ∧ w'.cell? ⟨bz, 1, none⟩ = some (.int .i64 h) ∧ w'.cell? ⟨bp, 0, none⟩ = some (.pointer (some ⟨bb, 0, none⟩)))
    (first | exact HK.out _ (Below.refl _ _) | exact HK.out _ ((Below.refl _ _).drew) | exact HK.out _ HE1.out | exact HK.out _ HE2.out | exact HK.out _ HE3.out)
    (first
      | ((with_reducible refine (HBX.out _ (HSP.out _ (And.left (by assumption))) (HGB.out _ (And.left (by assumption)))).mono ?_); rintro e wx1 ⟨rfl, hbx⟩; have HE1 := Lib.hid (Below.onto hbx (And.left (by assumption))); clear hbx)
      | ((with_reducible refine (HCM.out _ _).mono ?_); rintro e wx2 ⟨rfl, hbx⟩; have HE2 := Lib.hid (Below.onto hbx (And.left (by assumption))); clear hbx)
      | ((with_reducible refine (HL1.out _).mono ?_); rintro e wx3 ⟨rfl, hbx⟩; have HE3 := Lib.hid (Below.onto hbx (And.left (by assumption))); clear hbx))
  rename_i hH
  have HF := Lib.hid hH.1
  clear hH
  go_wp2_with fail
  · rename_i c1
    have d1 : decide (wd ≤ r2 - r1) = true := decide_eq_true c1
    have C1 := HCS.out
    have e1 : sv = true := by
      rcases C1 with h | h | h | h
      · exact h.2
      · exact absurd d1 (by rw [h.1]; decide)
      · exact absurd d1 (by rw [h.1]; decide)
      · exact absurd d1 (by rw [h.1]; decide)
    subst e1
    go_ret
    exact ⟨rfl, HF.out⟩
  have c1 : r2 - r1 < wd := by assumption
  have C1 := HCS.out
  have d1 : decide (wd ≤ r2 - r1) = false := decide_eq_false (by omega)
  have C2 : (decide (b - a < wd) = false ∧ sv = false) ∨ (decide (b - a < wd) = true ∧ max p1 a = a ∧ min p2 b = b ∧ sv = true) ∨ (decide (b - a < wd) = true ∧ ¬ (max p1 a = a ∧ min p2 b = b) ∧ sv = false) := by
    rcases C1 with h | h | h | h
    · exact absurd h.1 (by rw [d1]; decide)
    · exact .inl h.2
    · exact .inr (.inl h.2)
    · exact .inr (.inr h.2)
  have HC2 := Lib.hid C2
  have HK3 : Hid (∀ w' : World, Below wx3.heap.size wx3 w' → Below w.heap.size w w' ∧ w'.cell? ⟨bz, 1, none⟩ = some (.int .i64 h) ∧ w'.cell? ⟨bp, 0, none⟩ = some (.pointer (some ⟨bb, 0, none⟩)) ∧ w'.cell? ⟨bb, 0, none⟩ = some (.pointer (some ⟨sp, 0, none⟩))) := fun w' e =>
    have e2 := Below.onto e HF.out
    ⟨e2, cell_of_row w' bz 1 _ _ (0, 0) (HGZ.out w' e2), cell_of_row w' bp 0 _ _ (0, 0) (HGP.out w' e2), (box5v (HGB.out w' e2)).1⟩
  clear C1 C2 d1
  go_cut [5] (fun p5 wz => ∃ b5 : Nat, p5 = .pointer (some ⟨b5, 0, none⟩) ∧ wz.heap[b5]? = some (.cells #[.int .i64 p1, .int .i64 p2] 61 (0, 0)) ∧ Below w.heap.size w wz)
  case first =>
    go_region_held3 (fun w' => Below w.heap.size w w' ∧ w'.cell? ⟨bz, 1, none⟩ = some (.int .i64 h) ∧ w'.cell? ⟨bp, 0, none⟩ = some (.pointer (some ⟨bb, 0, none⟩)) ∧ w'.cell? ⟨bb, 0, none⟩ = some (.pointer (some ⟨sp, 0, none⟩)))
      (first | exact HK3.out _ (Below.refl _ _) | exact HK3.out _ ((Below.refl _ _).drew) | exact HK3.out _ HE4.out | exact HK3.out _ HE5.out | (refine HK3.out _ ?_; (repeat (first | exact HE5.out | exact HE4.out | exact Below.refl _ _ | (refine Below.alloc ?_ (by first | omega | (simp; done) | (simp; omega)) _) | (refine Below.drew ?_) | (refine Below.setCell ?_ (by first | omega | (simp; done) | (simp; omega)) _)))))
      (first
        | ((with_reducible refine (HRW.out _).mono ?_); rintro e wx4 ⟨rfl, hbx⟩; have HBx1 := Lib.hid hbx; have HE4 := Lib.hid (show Below wx3.heap.size wx3 wx4 by (first | exact Below.drewL hbx | exact Below.onto hbx ((Below.refl _ _).drew) | exact Below.onto hbx (((Below.refl _ _).drew).alloc (by first | omega | (simp; done) | (simp; omega)) _))); have he1 := HE4.out.size; have hzx1 := hbx.size; obtain ⟨hcx1, hfx1⟩ := bcell hbx; (try simp [Nat.add_one_le_iff] at hzx1); clear hbx)
        | ((with_reducible refine (HBD.out _ (HSP.out _ (And.left (by assumption)))).mono ?_); rintro e wx5 ⟨rfl, hbx⟩; have HBx2 := Lib.hid hbx; have HE5 := Lib.hid (show Below wx3.heap.size wx3 wx5 by (first | exact Below.onto hbx HE4.out | exact Below.onto hbx (HE4.out.alloc (by first | omega | (simp; done) | (simp; omega)) _))); have he2 := HE5.out.size; have hzx2 := hbx.size; obtain ⟨hcx2, hfx2⟩ := bcell hbx; (try simp [Nat.add_one_le_iff] at hzx2); clear hbx))
    all_goals
      rename_i hH
      have HF5 := Lib.hid hH.1
      clear hH
      go_wp2_with fail
      go_meet
      case rel =>
        first
        | exact ⟨_, rfl, heap_alloc_new wx5 _, HF5.out⟩
        | exact ⟨_, rfl, heap_setCell_same _ _ 1 _ _ _ (heap_setCell_same _ _ 0 _ _ _ (blk_keep (show (wx4.alloc (.cells #[.int .i64 0, .int .i64 0] 61)).heap[wx4.heap.size]? = _ from heap_alloc_new wx4 _) HBx2.out)), HF5.out⟩
        | exact ⟨_, rfl, heap_setCell_same _ _ 1 _ _ _ (heap_setCell_same _ _ 0 _ _ _ (blk_keep (blk_keep (show (wx3.alloc (.cells #[.int .i64 0, .int .i64 0] 61)).drew.heap[wx3.heap.size]? = _ from heap_alloc_new wx3 _) HBx1.out) HBx2.out)), HF5.out⟩
        | trace_state; sorry
  obtain ⟨b5, rfl, hv5, hb5⟩ := hcut
  have HKc : Hid (∀ w' : World, Below wc.heap.size wc w' → Below wc.heap.size wc w' ∧ w'.cell? ⟨bz, 0, none⟩ = some (.int .i64 wd) ∧ w'.cell? ⟨bp, 0, none⟩ = some (.pointer (some ⟨bb, 0, none⟩)) ∧ w'.cell? ⟨bb, 1, none⟩ = some (.int .i64 a) ∧ w'.cell? ⟨bb, 2, none⟩ = some (.int .i64 b) ∧ w'.cell? ⟨b5, 0, none⟩ = some (.int .i64 p1) ∧ w'.cell? ⟨b5, 1, none⟩ = some (.int .i64 p2)) := fun w' e =>
    have e2 := Below.onto e hb5
    ⟨e, cell_of_row w' bz 0 _ _ (0, 0) (HGZ.out w' e2), cell_of_row w' bp 0 _ _ (0, 0) (HGP.out w' e2), (box5v (HGB.out w' e2)).2.1, (box5v (HGB.out w' e2)).2.2.1, cell_of_row w' b5 0 _ _ (0, 0) (blk_keep hv5 e), cell_of_row w' b5 1 _ _ (0, 0) (blk_keep hv5 e)⟩
  have HB5 := Lib.hid hb5
  clear hv5 hb5 HK3 HK
  go_wp2_with fail
  have HC3 : (decide (b - a < wd) = false ∧ sv = false) ∨ (decide (b - a < wd) = true ∧ max p1 a = a ∧ min p2 b = b ∧ sv = true) ∨ (decide (b - a < wd) = true ∧ max p1 a = a ∧ ¬ min p2 b = b ∧ sv = false) ∨ (decide (b - a < wd) = true ∧ ¬ max p1 a = a ∧ sv = false) := by
    rcases HC2.out with h | h | ⟨h1, h2, h3⟩
    · exact .inl h
    · exact .inr (.inl h)
    · by_cases e : max p1 a = a
      · exact .inr (.inr (.inl ⟨h1, e, fun e2 => h2 ⟨e, e2⟩, h3⟩))
      · exact .inr (.inr (.inr ⟨h1, e, h3⟩))
  clear HC2 HCS
  rcases HC3 with ⟨d1, d9⟩ | ⟨d1, d2, d3, d9⟩ | ⟨d1, d2, d3, d9⟩ | ⟨d1, d2, d9⟩ <;> subst d9
  · refine wp_region_held_drew (S := (fun w' => Below wc.heap.size wc w' ∧ w'.cell? ⟨bz, 0, none⟩ = some (.int .i64 wd) ∧ w'.cell? ⟨bp, 0, none⟩ = some (.pointer (some ⟨bb, 0, none⟩)) ∧ w'.cell? ⟨bb, 1, none⟩ = some (.int .i64 a) ∧ w'.cell? ⟨bb, 2, none⟩ = some (.int .i64 b) ∧ w'.cell? ⟨b5, 0, none⟩ = some (.int .i64 p1) ∧ w'.cell? ⟨b5, 1, none⟩ = some (.int .i64 p2))) (by kernel_rfl) (HKc.out _ ((Below.refl _ _).drew)) (fun hHeld => ?_)
    refine wpAnyH_take (i := 0) (v := ?_) rfl (by kernel_rfl) (by kernel_rfl) (by kernel_rfl) (fun _ _ _ h => h) (Or.inl ⟨by rfl, ?_⟩) (by assumption) ?_
    rotate_left
    focus ((intro wS hSw; (try dsimp only at hSw); go_simp); (try (with_reducible rfl)))
    simp only [Act.put, List.getElem_toArray, List.getElem_cons_zero, List.getElem_cons_succ, List.setIfInBounds_toArray, List.set_cons_zero, List.set_cons_succ]
    refine wpAnyH_take (i := 1) (v := ?_) rfl (by kernel_rfl) (by kernel_rfl) (by kernel_rfl) (fun _ _ _ h => h) (Or.inl ⟨by rfl, ?_⟩) (by assumption) ?_
    rotate_left
    focus ((intro wS hSw; (try dsimp only at hSw); go_simp); (try (with_reducible rfl)))
    simp only [Act.put, List.getElem_toArray, List.getElem_cons_zero, List.getElem_cons_succ, List.setIfInBounds_toArray, List.set_cons_zero, List.set_cons_succ]
    refine wpAnyH_take (i := 2) (v := ?_) rfl (by kernel_rfl) (by kernel_rfl) (by kernel_rfl) (fun _ _ _ h => h) (Or.inl ⟨by rfl, ?_⟩) (by assumption) ?_
    rotate_left
    focus ((intro wS hSw; (try dsimp only at hSw); go_simp); (try (with_reducible rfl)))
    simp only [Act.put, List.getElem_toArray, List.getElem_cons_zero, List.getElem_cons_succ, List.setIfInBounds_toArray, List.set_cons_zero, List.set_cons_succ]
    refine wpAnyH_take (i := 3) (v := ?_) rfl (by kernel_rfl) (by kernel_rfl) (by kernel_rfl) (fun _ _ _ h => h) (Or.inl ⟨by rfl, ?_⟩) (by assumption) ?_
    rotate_left
    focus ((intro wS hSw; (try dsimp only at hSw); go_simp); (try (with_reducible rfl)))
    simp only [Act.put, List.getElem_toArray, List.getElem_cons_zero, List.getElem_cons_succ, List.setIfInBounds_toArray, List.set_cons_zero, List.set_cons_succ]
    refine wpAnyH_take (i := 4) (v := ?_) rfl (by kernel_rfl) (by kernel_rfl) (by kernel_rfl) (fun _ _ _ h => h) (Or.inl ⟨by rfl, ?_⟩) (by assumption) ?_
    rotate_left
    focus ((intro wS hSw; (try dsimp only at hSw); go_simp); (try (with_reducible rfl)))
    simp only [Act.put, List.getElem_toArray, List.getElem_cons_zero, List.getElem_cons_succ, List.setIfInBounds_toArray, List.set_cons_zero, List.set_cons_succ]
    refine wpAnyH_take (i := 5) (v := ?_) rfl (by kernel_rfl) (by kernel_rfl) (by kernel_rfl) (fun _ _ _ h => h) (Or.inl ⟨by rfl, ?_⟩) (by assumption) ?_
    rotate_left
    focus ((intro wS hSw; (try dsimp only at hSw); go_simp); (try (with_reducible rfl)))
    simp only [Act.put, List.getElem_toArray, List.getElem_cons_zero, List.getElem_cons_succ, List.setIfInBounds_toArray, List.set_cons_zero, List.set_cons_succ]
    refine wpAnyH_ready (rs := [6]) (by kernel_rfl) (by simp) ?_
    refine AllReadyH.cons rfl (fun K hK => ?_) AllReadyH.nil
    go_simp
    refine (HL2.out _).mono ?_
    rintro e y1 ⟨rfl, hbx⟩
    have HE1 := Lib.hid (show Below wc.heap.size wc y1 from Below.drewL hbx)
    clear hbx
    refine hK.out _ _ (HKc.out _ HE1.out) (fun hHeld => ?_)
    clear hK K
    (try simp only [Act.put, List.getElem_toArray, List.getElem_cons_zero, List.getElem_cons_succ, List.setIfInBounds_toArray, List.set_cons_zero, List.set_cons_succ])
    refine wpAnyH_take (i := 7) (v := ?_) rfl (by kernel_rfl) (by kernel_rfl) (by kernel_rfl) (fun _ _ _ h => h) (Or.inl ⟨by rfl, ?_⟩) (by assumption) ?_
    rotate_left
    focus ((intro wS hSw; (try dsimp only at hSw); go_simp); (try (with_reducible rfl)))
    simp only [Act.put, List.getElem_toArray, List.getElem_cons_zero, List.getElem_cons_succ, List.setIfInBounds_toArray, List.set_cons_zero, List.set_cons_succ]
    refine wpAnyH_take (i := 8) (v := ?_) rfl (by kernel_rfl) (by kernel_rfl) (by kernel_rfl) (fun _ _ _ h => h) (Or.inl ⟨by rfl, ?_⟩) (by assumption) ?_
    rotate_left
    focus ((intro wS hSw; (try dsimp only at hSw); go_simp); (try (with_reducible rfl)))
    simp only [Act.put, List.getElem_toArray, List.getElem_cons_zero, List.getElem_cons_succ, List.setIfInBounds_toArray, List.set_cons_zero, List.set_cons_succ]
    refine wpAnyH_take (i := 9) (v := undef) rfl (by kernel_rfl) (by kernel_rfl) (by kernel_rfl) (fun _ _ _ h => h) (Or.inr ⟨by rfl, rfl⟩) (by assumption) ?_
    simp only [Act.put, List.getElem_toArray, List.getElem_cons_zero, List.getElem_cons_succ, List.setIfInBounds_toArray, List.set_cons_zero, List.set_cons_succ]
    refine wpAnyH_take (i := 10) (v := undef) rfl (by kernel_rfl) (by kernel_rfl) (by kernel_rfl) (fun _ _ _ h => h) (Or.inr ⟨by rfl, rfl⟩) (by assumption) ?_
    simp only [Act.put, List.getElem_toArray, List.getElem_cons_zero, List.getElem_cons_succ, List.setIfInBounds_toArray, List.set_cons_zero, List.set_cons_succ]
    refine wpAnyH_take (i := 11) (v := undef) rfl (by kernel_rfl) (by kernel_rfl) (by kernel_rfl) (fun _ _ _ h => h) (Or.inr ⟨by rfl, rfl⟩) (by assumption) ?_
    simp only [Act.put, List.getElem_toArray, List.getElem_cons_zero, List.getElem_cons_succ, List.setIfInBounds_toArray, List.set_cons_zero, List.set_cons_succ]
    refine wpAnyH_take (i := 12) (v := undef) rfl (by kernel_rfl) (by kernel_rfl) (by kernel_rfl) (fun _ _ _ h => h) (Or.inr ⟨by rfl, rfl⟩) (by assumption) ?_
    simp only [Act.put, List.getElem_toArray, List.getElem_cons_zero, List.getElem_cons_succ, List.setIfInBounds_toArray, List.set_cons_zero, List.set_cons_succ]
    refine wpAnyH_take (i := 13) (v := undef) rfl (by kernel_rfl) (by kernel_rfl) (by kernel_rfl) (fun _ _ _ h => h) (Or.inr ⟨by rfl, rfl⟩) (by assumption) ?_
    simp only [Act.put, List.getElem_toArray, List.getElem_cons_zero, List.getElem_cons_succ, List.setIfInBounds_toArray, List.set_cons_zero, List.set_cons_succ]
    refine wpAnyH_take (i := 14) (v := undef) rfl (by kernel_rfl) (by kernel_rfl) (by kernel_rfl) (fun _ _ _ h => h) (Or.inr ⟨by rfl, rfl⟩) (by assumption) ?_
    simp only [Act.put, List.getElem_toArray, List.getElem_cons_zero, List.getElem_cons_succ, List.setIfInBounds_toArray, List.set_cons_zero, List.set_cons_succ]
    refine wpAnyH_take (i := 15) (v := undef) rfl (by kernel_rfl) (by kernel_rfl) (by kernel_rfl) (fun _ _ _ h => h) (Or.inr ⟨by rfl, rfl⟩) (by assumption) ?_
    simp only [Act.put, List.getElem_toArray, List.getElem_cons_zero, List.getElem_cons_succ, List.setIfInBounds_toArray, List.set_cons_zero, List.set_cons_succ]
    refine wpAnyH_take (i := 16) (v := undef) rfl (by kernel_rfl) (by kernel_rfl) (by kernel_rfl) (fun _ _ _ h => h) (Or.inr ⟨by rfl, rfl⟩) (by assumption) ?_
    simp only [Act.put, List.getElem_toArray, List.getElem_cons_zero, List.getElem_cons_succ, List.setIfInBounds_toArray, List.set_cons_zero, List.set_cons_succ]
    refine wpAnyH_take (i := 17) (v := undef) rfl (by kernel_rfl) (by kernel_rfl) (by kernel_rfl) (fun _ _ _ h => h) (Or.inr ⟨by rfl, rfl⟩) (by assumption) ?_
    simp only [Act.put, List.getElem_toArray, List.getElem_cons_zero, List.getElem_cons_succ, List.setIfInBounds_toArray, List.set_cons_zero, List.set_cons_succ]
    refine wpAnyH_take (i := 18) (v := undef) rfl (by kernel_rfl) (by kernel_rfl) (by kernel_rfl) (fun _ _ _ h => h) (Or.inr ⟨by rfl, rfl⟩) (by assumption) ?_
    simp only [Act.put, List.getElem_toArray, List.getElem_cons_zero, List.getElem_cons_succ, List.setIfInBounds_toArray, List.set_cons_zero, List.set_cons_succ]
    refine wpAnyH_take (i := 19) (v := undef) rfl (by kernel_rfl) (by kernel_rfl) (by kernel_rfl) (fun _ _ _ h => h) (Or.inr ⟨by rfl, rfl⟩) (by assumption) ?_
    simp only [Act.put, List.getElem_toArray, List.getElem_cons_zero, List.getElem_cons_succ, List.setIfInBounds_toArray, List.set_cons_zero, List.set_cons_succ]
    refine wpAnyH_take (i := 20) (v := ?_) rfl (by kernel_rfl) (by kernel_rfl) (by kernel_rfl) (fun _ _ _ h => h) (Or.inl ⟨by rfl, ?_⟩) (by assumption) ?_
    rotate_left
    focus ((intro wS hSw; (try dsimp only at hSw); go_simp); (try (with_reducible rfl)))
    simp only [Act.put, List.getElem_toArray, List.getElem_cons_zero, List.getElem_cons_succ, List.setIfInBounds_toArray, List.set_cons_zero, List.set_cons_succ]
    refine wpAnyH_take (i := 21) (v := ?_) rfl (by kernel_rfl) (by kernel_rfl) (by kernel_rfl) (fun _ _ _ h => h) (Or.inl ⟨by rfl, ?_⟩) (by assumption) ?_
    rotate_left
    focus ((intro wS hSw; (try dsimp only at hSw); go_simp); (try (with_reducible rfl)))
    simp only [Act.put, List.getElem_toArray, List.getElem_cons_zero, List.getElem_cons_succ, List.setIfInBounds_toArray, List.set_cons_zero, List.set_cons_succ]
    refine wpAnyH_done (by kernel_rfl) ?_ _
    clear hHeld
    go_wp2_with fail
    go_ret
    exact ⟨rfl, Below.onto HE1.out HB5.out⟩
  · refine wp_region_held_drew (S := (fun w' => Below wc.heap.size wc w' ∧ w'.cell? ⟨bz, 0, none⟩ = some (.int .i64 wd) ∧ w'.cell? ⟨bp, 0, none⟩ = some (.pointer (some ⟨bb, 0, none⟩)) ∧ w'.cell? ⟨bb, 1, none⟩ = some (.int .i64 a) ∧ w'.cell? ⟨bb, 2, none⟩ = some (.int .i64 b) ∧ w'.cell? ⟨b5, 0, none⟩ = some (.int .i64 p1) ∧ w'.cell? ⟨b5, 1, none⟩ = some (.int .i64 p2))) (by kernel_rfl) (HKc.out _ ((Below.refl _ _).drew)) (fun hHeld => ?_)
    refine wpAnyH_take (i := 0) (v := ?_) rfl (by kernel_rfl) (by kernel_rfl) (by kernel_rfl) (fun _ _ _ h => h) (Or.inl ⟨by rfl, ?_⟩) (by assumption) ?_
    rotate_left
    focus ((intro wS hSw; (try dsimp only at hSw); go_simp); (try (with_reducible rfl)))
    simp only [Act.put, List.getElem_toArray, List.getElem_cons_zero, List.getElem_cons_succ, List.setIfInBounds_toArray, List.set_cons_zero, List.set_cons_succ]
    refine wpAnyH_take (i := 1) (v := ?_) rfl (by kernel_rfl) (by kernel_rfl) (by kernel_rfl) (fun _ _ _ h => h) (Or.inl ⟨by rfl, ?_⟩) (by assumption) ?_
    rotate_left
    focus ((intro wS hSw; (try dsimp only at hSw); go_simp); (try (with_reducible rfl)))
    simp only [Act.put, List.getElem_toArray, List.getElem_cons_zero, List.getElem_cons_succ, List.setIfInBounds_toArray, List.set_cons_zero, List.set_cons_succ]
    refine wpAnyH_take (i := 2) (v := ?_) rfl (by kernel_rfl) (by kernel_rfl) (by kernel_rfl) (fun _ _ _ h => h) (Or.inl ⟨by rfl, ?_⟩) (by assumption) ?_
    rotate_left
    focus ((intro wS hSw; (try dsimp only at hSw); go_simp); (try (with_reducible rfl)))
    simp only [Act.put, List.getElem_toArray, List.getElem_cons_zero, List.getElem_cons_succ, List.setIfInBounds_toArray, List.set_cons_zero, List.set_cons_succ]
    refine wpAnyH_take (i := 3) (v := ?_) rfl (by kernel_rfl) (by kernel_rfl) (by kernel_rfl) (fun _ _ _ h => h) (Or.inl ⟨by rfl, ?_⟩) (by assumption) ?_
    rotate_left
    focus ((intro wS hSw; (try dsimp only at hSw); go_simp); (try (with_reducible rfl)))
    simp only [Act.put, List.getElem_toArray, List.getElem_cons_zero, List.getElem_cons_succ, List.setIfInBounds_toArray, List.set_cons_zero, List.set_cons_succ]
    refine wpAnyH_take (i := 4) (v := ?_) rfl (by kernel_rfl) (by kernel_rfl) (by kernel_rfl) (fun _ _ _ h => h) (Or.inl ⟨by rfl, ?_⟩) (by assumption) ?_
    rotate_left
    focus ((intro wS hSw; (try dsimp only at hSw); go_simp); (try (with_reducible rfl)))
    simp only [Act.put, List.getElem_toArray, List.getElem_cons_zero, List.getElem_cons_succ, List.setIfInBounds_toArray, List.set_cons_zero, List.set_cons_succ]
    refine wpAnyH_take (i := 5) (v := ?_) rfl (by kernel_rfl) (by kernel_rfl) (by kernel_rfl) (fun _ _ _ h => h) (Or.inl ⟨by rfl, ?_⟩) (by assumption) ?_
    rotate_left
    focus ((intro wS hSw; (try dsimp only at hSw); go_simp); (try (with_reducible rfl)))
    simp only [Act.put, List.getElem_toArray, List.getElem_cons_zero, List.getElem_cons_succ, List.setIfInBounds_toArray, List.set_cons_zero, List.set_cons_succ]
    refine wpAnyH_ready (rs := [6]) (by kernel_rfl) (by simp) ?_
    refine AllReadyH.cons rfl (fun K hK => ?_) AllReadyH.nil
    go_simp
    refine (HL2.out _).mono ?_
    rintro e y1 ⟨rfl, hbx⟩
    have HE1 := Lib.hid (show Below wc.heap.size wc y1 from Below.drewL hbx)
    clear hbx
    refine hK.out _ _ (HKc.out _ HE1.out) (fun hHeld => ?_)
    clear hK K
    (try simp only [Act.put, List.getElem_toArray, List.getElem_cons_zero, List.getElem_cons_succ, List.setIfInBounds_toArray, List.set_cons_zero, List.set_cons_succ])
    refine wpAnyH_take (i := 7) (v := ?_) rfl (by kernel_rfl) (by kernel_rfl) (by kernel_rfl) (fun _ _ _ h => h) (Or.inl ⟨by rfl, ?_⟩) (by assumption) ?_
    rotate_left
    focus ((intro wS hSw; (try dsimp only at hSw); go_simp); (try (with_reducible rfl)))
    simp only [Act.put, List.getElem_toArray, List.getElem_cons_zero, List.getElem_cons_succ, List.setIfInBounds_toArray, List.set_cons_zero, List.set_cons_succ]
    refine wpAnyH_take (i := 8) (v := ?_) rfl (by kernel_rfl) (by kernel_rfl) (by kernel_rfl) (fun _ _ _ h => h) (Or.inl ⟨by rfl, ?_⟩) (by assumption) ?_
    rotate_left
    focus ((intro wS hSw; (try dsimp only at hSw); go_simp); (try (with_reducible rfl)))
    simp only [Act.put, List.getElem_toArray, List.getElem_cons_zero, List.getElem_cons_succ, List.setIfInBounds_toArray, List.set_cons_zero, List.set_cons_succ]
    refine wpAnyH_take (i := 9) (v := ?_) rfl (by kernel_rfl) (by kernel_rfl) (by kernel_rfl) (fun _ _ _ h => h) (Or.inl ⟨by rfl, ?_⟩) (by assumption) ?_
    rotate_left
    focus ((intro wS hSw; (try dsimp only at hSw); go_simp); (try (with_reducible rfl)))
    simp only [Act.put, List.getElem_toArray, List.getElem_cons_zero, List.getElem_cons_succ, List.setIfInBounds_toArray, List.set_cons_zero, List.set_cons_succ]
    refine wpAnyH_take (i := 10) (v := ?_) rfl (by kernel_rfl) (by kernel_rfl) (by kernel_rfl) (fun _ _ _ h => h) (Or.inl ⟨by rfl, ?_⟩) (by assumption) ?_
    rotate_left
    focus ((intro wS hSw; (try dsimp only at hSw); go_simp); (try (with_reducible rfl)))
    simp only [Act.put, List.getElem_toArray, List.getElem_cons_zero, List.getElem_cons_succ, List.setIfInBounds_toArray, List.set_cons_zero, List.set_cons_succ]
    refine wpAnyH_take (i := 11) (v := ?_) rfl (by kernel_rfl) (by kernel_rfl) (by kernel_rfl) (fun _ _ _ h => h) (Or.inl ⟨by rfl, ?_⟩) (by assumption) ?_
    rotate_left
    focus ((intro wS hSw; (try dsimp only at hSw); go_simp); (try (with_reducible rfl)))
    simp only [Act.put, List.getElem_toArray, List.getElem_cons_zero, List.getElem_cons_succ, List.setIfInBounds_toArray, List.set_cons_zero, List.set_cons_succ]
    refine wpAnyH_take (i := 12) (v := ?_) rfl (by kernel_rfl) (by kernel_rfl) (by kernel_rfl) (fun _ _ _ h => h) (Or.inl ⟨by rfl, ?_⟩) (by assumption) ?_
    rotate_left
    focus ((intro wS hSw; (try dsimp only at hSw); go_simp); (try (with_reducible rfl)))
    simp only [Act.put, List.getElem_toArray, List.getElem_cons_zero, List.getElem_cons_succ, List.setIfInBounds_toArray, List.set_cons_zero, List.set_cons_succ]
    refine wpAnyH_take (i := 13) (v := ?_) rfl (by kernel_rfl) (by kernel_rfl) (by kernel_rfl) (fun _ _ _ h => h) (Or.inl ⟨by rfl, ?_⟩) (by assumption) ?_
    rotate_left
    focus ((intro wS hSw; (try dsimp only at hSw); go_simp); (try (with_reducible rfl)))
    simp only [Act.put, List.getElem_toArray, List.getElem_cons_zero, List.getElem_cons_succ, List.setIfInBounds_toArray, List.set_cons_zero, List.set_cons_succ]
    refine wpAnyH_take (i := 15) (v := ?_) rfl (by kernel_rfl) (by kernel_rfl) (by kernel_rfl) (fun _ _ _ h => h) (Or.inl ⟨by rfl, ?_⟩) (by assumption) ?_
    rotate_left
    focus ((intro wS hSw; (try dsimp only at hSw); go_simp); (try (with_reducible rfl)))
    simp only [Act.put, List.getElem_toArray, List.getElem_cons_zero, List.getElem_cons_succ, List.setIfInBounds_toArray, List.set_cons_zero, List.set_cons_succ]
    refine wpAnyH_take (i := 16) (v := ?_) rfl (by kernel_rfl) (by kernel_rfl) (by kernel_rfl) (fun _ _ _ h => h) (Or.inl ⟨by rfl, ?_⟩) (by assumption) ?_
    rotate_left
    focus ((intro wS hSw; (try dsimp only at hSw); go_simp); (try (with_reducible rfl)))
    simp only [Act.put, List.getElem_toArray, List.getElem_cons_zero, List.getElem_cons_succ, List.setIfInBounds_toArray, List.set_cons_zero, List.set_cons_succ]
    refine wpAnyH_take (i := 17) (v := ?_) rfl (by kernel_rfl) (by kernel_rfl) (by kernel_rfl) (fun _ _ _ h => h) (Or.inl ⟨by rfl, ?_⟩) (by assumption) ?_
    rotate_left
    focus ((intro wS hSw; (try dsimp only at hSw); go_simp); (try (with_reducible rfl)))
    simp only [Act.put, List.getElem_toArray, List.getElem_cons_zero, List.getElem_cons_succ, List.setIfInBounds_toArray, List.set_cons_zero, List.set_cons_succ]
    refine wpAnyH_take (i := 18) (v := ?_) rfl (by kernel_rfl) (by kernel_rfl) (by kernel_rfl) (fun _ _ _ h => h) (Or.inl ⟨by rfl, ?_⟩) (by assumption) ?_
    rotate_left
    focus ((intro wS hSw; (try dsimp only at hSw); go_simp); (try (with_reducible rfl)))
    simp only [Act.put, List.getElem_toArray, List.getElem_cons_zero, List.getElem_cons_succ, List.setIfInBounds_toArray, List.set_cons_zero, List.set_cons_succ]
    refine wpAnyH_ready (rs := [14]) (by kernel_rfl) (by simp) ?_
    refine AllReadyH.cons rfl (fun K hK => ?_) AllReadyH.nil
    go_simp
    refine (HCP.out _).mono ?_
    rintro e y2 ⟨rfl, hbx⟩
    have HE2 := Lib.hid (Below.onto hbx HE1.out)
    clear hbx
    refine hK.out _ _ (HKc.out _ HE2.out) (fun hHeld => ?_)
    clear hK K
    (try simp only [Act.put, List.getElem_toArray, List.getElem_cons_zero, List.getElem_cons_succ, List.setIfInBounds_toArray, List.set_cons_zero, List.set_cons_succ])
    refine wpAnyH_take (i := 19) (v := ?_) rfl (by kernel_rfl) (by kernel_rfl) (by kernel_rfl) (fun _ _ _ h => h) (Or.inl ⟨by rfl, ?_⟩) (by assumption) ?_
    rotate_left
    focus ((intro wS hSw; (try dsimp only at hSw); go_simp); (try (with_reducible rfl)))
    simp only [Act.put, List.getElem_toArray, List.getElem_cons_zero, List.getElem_cons_succ, List.setIfInBounds_toArray, List.set_cons_zero, List.set_cons_succ]
    refine wpAnyH_take (i := 20) (v := ?_) rfl (by kernel_rfl) (by kernel_rfl) (by kernel_rfl) (fun _ _ _ h => h) (Or.inl ⟨by rfl, ?_⟩) (by assumption) ?_
    rotate_left
    focus ((intro wS hSw; (try dsimp only at hSw); go_simp); (try (with_reducible rfl)))
    simp only [Act.put, List.getElem_toArray, List.getElem_cons_zero, List.getElem_cons_succ, List.setIfInBounds_toArray, List.set_cons_zero, List.set_cons_succ]
    refine wpAnyH_take (i := 21) (v := ?_) rfl (by kernel_rfl) (by kernel_rfl) (by kernel_rfl) (fun _ _ _ h => h) (Or.inl ⟨by rfl, ?_⟩) (by assumption) ?_
    rotate_left
    focus ((intro wS hSw; (try dsimp only at hSw); go_simp); (try (with_reducible rfl)))
    simp only [Act.put, List.getElem_toArray, List.getElem_cons_zero, List.getElem_cons_succ, List.setIfInBounds_toArray, List.set_cons_zero, List.set_cons_succ]
    refine wpAnyH_done (by kernel_rfl) ?_ _
    clear hHeld
    go_wp2_with fail
    go_ret
    exact ⟨rfl, Below.onto HE2.out HB5.out⟩
  · refine wp_region_held_drew (S := (fun w' => Below wc.heap.size wc w' ∧ w'.cell? ⟨bz, 0, none⟩ = some (.int .i64 wd) ∧ w'.cell? ⟨bp, 0, none⟩ = some (.pointer (some ⟨bb, 0, none⟩)) ∧ w'.cell? ⟨bb, 1, none⟩ = some (.int .i64 a) ∧ w'.cell? ⟨bb, 2, none⟩ = some (.int .i64 b) ∧ w'.cell? ⟨b5, 0, none⟩ = some (.int .i64 p1) ∧ w'.cell? ⟨b5, 1, none⟩ = some (.int .i64 p2))) (by kernel_rfl) (HKc.out _ ((Below.refl _ _).drew)) (fun hHeld => ?_)
    refine wpAnyH_take (i := 0) (v := ?_) rfl (by kernel_rfl) (by kernel_rfl) (by kernel_rfl) (fun _ _ _ h => h) (Or.inl ⟨by rfl, ?_⟩) (by assumption) ?_
    rotate_left
    focus ((intro wS hSw; (try dsimp only at hSw); go_simp); (try (with_reducible rfl)))
    simp only [Act.put, List.getElem_toArray, List.getElem_cons_zero, List.getElem_cons_succ, List.setIfInBounds_toArray, List.set_cons_zero, List.set_cons_succ]
    refine wpAnyH_take (i := 1) (v := ?_) rfl (by kernel_rfl) (by kernel_rfl) (by kernel_rfl) (fun _ _ _ h => h) (Or.inl ⟨by rfl, ?_⟩) (by assumption) ?_
    rotate_left
    focus ((intro wS hSw; (try dsimp only at hSw); go_simp); (try (with_reducible rfl)))
    simp only [Act.put, List.getElem_toArray, List.getElem_cons_zero, List.getElem_cons_succ, List.setIfInBounds_toArray, List.set_cons_zero, List.set_cons_succ]
    refine wpAnyH_take (i := 2) (v := ?_) rfl (by kernel_rfl) (by kernel_rfl) (by kernel_rfl) (fun _ _ _ h => h) (Or.inl ⟨by rfl, ?_⟩) (by assumption) ?_
    rotate_left
    focus ((intro wS hSw; (try dsimp only at hSw); go_simp); (try (with_reducible rfl)))
    simp only [Act.put, List.getElem_toArray, List.getElem_cons_zero, List.getElem_cons_succ, List.setIfInBounds_toArray, List.set_cons_zero, List.set_cons_succ]
    refine wpAnyH_take (i := 3) (v := ?_) rfl (by kernel_rfl) (by kernel_rfl) (by kernel_rfl) (fun _ _ _ h => h) (Or.inl ⟨by rfl, ?_⟩) (by assumption) ?_
    rotate_left
    focus ((intro wS hSw; (try dsimp only at hSw); go_simp); (try (with_reducible rfl)))
    simp only [Act.put, List.getElem_toArray, List.getElem_cons_zero, List.getElem_cons_succ, List.setIfInBounds_toArray, List.set_cons_zero, List.set_cons_succ]
    refine wpAnyH_take (i := 4) (v := ?_) rfl (by kernel_rfl) (by kernel_rfl) (by kernel_rfl) (fun _ _ _ h => h) (Or.inl ⟨by rfl, ?_⟩) (by assumption) ?_
    rotate_left
    focus ((intro wS hSw; (try dsimp only at hSw); go_simp); (try (with_reducible rfl)))
    simp only [Act.put, List.getElem_toArray, List.getElem_cons_zero, List.getElem_cons_succ, List.setIfInBounds_toArray, List.set_cons_zero, List.set_cons_succ]
    refine wpAnyH_take (i := 5) (v := ?_) rfl (by kernel_rfl) (by kernel_rfl) (by kernel_rfl) (fun _ _ _ h => h) (Or.inl ⟨by rfl, ?_⟩) (by assumption) ?_
    rotate_left
    focus ((intro wS hSw; (try dsimp only at hSw); go_simp); (try (with_reducible rfl)))
    simp only [Act.put, List.getElem_toArray, List.getElem_cons_zero, List.getElem_cons_succ, List.setIfInBounds_toArray, List.set_cons_zero, List.set_cons_succ]
    refine wpAnyH_ready (rs := [6]) (by kernel_rfl) (by simp) ?_
    refine AllReadyH.cons rfl (fun K hK => ?_) AllReadyH.nil
    go_simp
    refine (HL2.out _).mono ?_
    rintro e y1 ⟨rfl, hbx⟩
    have HE1 := Lib.hid (show Below wc.heap.size wc y1 from Below.drewL hbx)
    clear hbx
    refine hK.out _ _ (HKc.out _ HE1.out) (fun hHeld => ?_)
    clear hK K
    (try simp only [Act.put, List.getElem_toArray, List.getElem_cons_zero, List.getElem_cons_succ, List.setIfInBounds_toArray, List.set_cons_zero, List.set_cons_succ])
    refine wpAnyH_take (i := 7) (v := ?_) rfl (by kernel_rfl) (by kernel_rfl) (by kernel_rfl) (fun _ _ _ h => h) (Or.inl ⟨by rfl, ?_⟩) (by assumption) ?_
    rotate_left
    focus ((intro wS hSw; (try dsimp only at hSw); go_simp); (try (with_reducible rfl)))
    simp only [Act.put, List.getElem_toArray, List.getElem_cons_zero, List.getElem_cons_succ, List.setIfInBounds_toArray, List.set_cons_zero, List.set_cons_succ]
    refine wpAnyH_take (i := 8) (v := ?_) rfl (by kernel_rfl) (by kernel_rfl) (by kernel_rfl) (fun _ _ _ h => h) (Or.inl ⟨by rfl, ?_⟩) (by assumption) ?_
    rotate_left
    focus ((intro wS hSw; (try dsimp only at hSw); go_simp); (try (with_reducible rfl)))
    simp only [Act.put, List.getElem_toArray, List.getElem_cons_zero, List.getElem_cons_succ, List.setIfInBounds_toArray, List.set_cons_zero, List.set_cons_succ]
    refine wpAnyH_take (i := 9) (v := ?_) rfl (by kernel_rfl) (by kernel_rfl) (by kernel_rfl) (fun _ _ _ h => h) (Or.inl ⟨by rfl, ?_⟩) (by assumption) ?_
    rotate_left
    focus ((intro wS hSw; (try dsimp only at hSw); go_simp); (try (with_reducible rfl)))
    simp only [Act.put, List.getElem_toArray, List.getElem_cons_zero, List.getElem_cons_succ, List.setIfInBounds_toArray, List.set_cons_zero, List.set_cons_succ]
    refine wpAnyH_take (i := 10) (v := ?_) rfl (by kernel_rfl) (by kernel_rfl) (by kernel_rfl) (fun _ _ _ h => h) (Or.inl ⟨by rfl, ?_⟩) (by assumption) ?_
    rotate_left
    focus ((intro wS hSw; (try dsimp only at hSw); go_simp); (try (with_reducible rfl)))
    simp only [Act.put, List.getElem_toArray, List.getElem_cons_zero, List.getElem_cons_succ, List.setIfInBounds_toArray, List.set_cons_zero, List.set_cons_succ]
    refine wpAnyH_take (i := 11) (v := ?_) rfl (by kernel_rfl) (by kernel_rfl) (by kernel_rfl) (fun _ _ _ h => h) (Or.inl ⟨by rfl, ?_⟩) (by assumption) ?_
    rotate_left
    focus ((intro wS hSw; (try dsimp only at hSw); go_simp); (try (with_reducible rfl)))
    simp only [Act.put, List.getElem_toArray, List.getElem_cons_zero, List.getElem_cons_succ, List.setIfInBounds_toArray, List.set_cons_zero, List.set_cons_succ]
    refine wpAnyH_take (i := 12) (v := ?_) rfl (by kernel_rfl) (by kernel_rfl) (by kernel_rfl) (fun _ _ _ h => h) (Or.inl ⟨by rfl, ?_⟩) (by assumption) ?_
    rotate_left
    focus ((intro wS hSw; (try dsimp only at hSw); go_simp); (try (with_reducible rfl)))
    simp only [Act.put, List.getElem_toArray, List.getElem_cons_zero, List.getElem_cons_succ, List.setIfInBounds_toArray, List.set_cons_zero, List.set_cons_succ]
    refine wpAnyH_take (i := 13) (v := ?_) rfl (by kernel_rfl) (by kernel_rfl) (by kernel_rfl) (fun _ _ _ h => h) (Or.inl ⟨by rfl, ?_⟩) (by assumption) ?_
    rotate_left
    focus ((intro wS hSw; (try dsimp only at hSw); go_simp); (try (with_reducible rfl)))
    simp only [Act.put, List.getElem_toArray, List.getElem_cons_zero, List.getElem_cons_succ, List.setIfInBounds_toArray, List.set_cons_zero, List.set_cons_succ]
    refine wpAnyH_take (i := 15) (v := ?_) rfl (by kernel_rfl) (by kernel_rfl) (by kernel_rfl) (fun _ _ _ h => h) (Or.inl ⟨by rfl, ?_⟩) (by assumption) ?_
    rotate_left
    focus ((intro wS hSw; (try dsimp only at hSw); go_simp); (try (with_reducible rfl)))
    simp only [Act.put, List.getElem_toArray, List.getElem_cons_zero, List.getElem_cons_succ, List.setIfInBounds_toArray, List.set_cons_zero, List.set_cons_succ]
    refine wpAnyH_take (i := 16) (v := ?_) rfl (by kernel_rfl) (by kernel_rfl) (by kernel_rfl) (fun _ _ _ h => h) (Or.inl ⟨by rfl, ?_⟩) (by assumption) ?_
    rotate_left
    focus ((intro wS hSw; (try dsimp only at hSw); go_simp); (try (with_reducible rfl)))
    simp only [Act.put, List.getElem_toArray, List.getElem_cons_zero, List.getElem_cons_succ, List.setIfInBounds_toArray, List.set_cons_zero, List.set_cons_succ]
    refine wpAnyH_take (i := 17) (v := ?_) rfl (by kernel_rfl) (by kernel_rfl) (by kernel_rfl) (fun _ _ _ h => h) (Or.inl ⟨by rfl, ?_⟩) (by assumption) ?_
    rotate_left
    focus ((intro wS hSw; (try dsimp only at hSw); go_simp); (try (with_reducible rfl)))
    simp only [Act.put, List.getElem_toArray, List.getElem_cons_zero, List.getElem_cons_succ, List.setIfInBounds_toArray, List.set_cons_zero, List.set_cons_succ]
    refine wpAnyH_take (i := 18) (v := ?_) rfl (by kernel_rfl) (by kernel_rfl) (by kernel_rfl) (fun _ _ _ h => h) (Or.inl ⟨by rfl, ?_⟩) (by assumption) ?_
    rotate_left
    focus ((intro wS hSw; (try dsimp only at hSw); go_simp); (try (with_reducible rfl)))
    simp only [Act.put, List.getElem_toArray, List.getElem_cons_zero, List.getElem_cons_succ, List.setIfInBounds_toArray, List.set_cons_zero, List.set_cons_succ]
    refine wpAnyH_ready (rs := [14]) (by kernel_rfl) (by simp) ?_
    refine AllReadyH.cons rfl (fun K hK => ?_) AllReadyH.nil
    go_simp
    refine (HCP.out _).mono ?_
    rintro e y2 ⟨rfl, hbx⟩
    have HE2 := Lib.hid (Below.onto hbx HE1.out)
    clear hbx
    refine hK.out _ _ (HKc.out _ HE2.out) (fun hHeld => ?_)
    clear hK K
    (try simp only [Act.put, List.getElem_toArray, List.getElem_cons_zero, List.getElem_cons_succ, List.setIfInBounds_toArray, List.set_cons_zero, List.set_cons_succ])
    refine wpAnyH_take (i := 19) (v := ?_) rfl (by kernel_rfl) (by kernel_rfl) (by kernel_rfl) (fun _ _ _ h => h) (Or.inl ⟨by rfl, ?_⟩) (by assumption) ?_
    rotate_left
    focus ((intro wS hSw; (try dsimp only at hSw); go_simp); (try (with_reducible rfl)))
    simp only [Act.put, List.getElem_toArray, List.getElem_cons_zero, List.getElem_cons_succ, List.setIfInBounds_toArray, List.set_cons_zero, List.set_cons_succ]
    refine wpAnyH_take (i := 20) (v := ?_) rfl (by kernel_rfl) (by kernel_rfl) (by kernel_rfl) (fun _ _ _ h => h) (Or.inl ⟨by rfl, ?_⟩) (by assumption) ?_
    rotate_left
    focus ((intro wS hSw; (try dsimp only at hSw); go_simp); (try (with_reducible rfl)))
    simp only [Act.put, List.getElem_toArray, List.getElem_cons_zero, List.getElem_cons_succ, List.setIfInBounds_toArray, List.set_cons_zero, List.set_cons_succ]
    refine wpAnyH_take (i := 21) (v := ?_) rfl (by kernel_rfl) (by kernel_rfl) (by kernel_rfl) (fun _ _ _ h => h) (Or.inl ⟨by rfl, ?_⟩) (by assumption) ?_
    rotate_left
    focus ((intro wS hSw; (try dsimp only at hSw); go_simp); (try (with_reducible rfl)))
    simp only [Act.put, List.getElem_toArray, List.getElem_cons_zero, List.getElem_cons_succ, List.setIfInBounds_toArray, List.set_cons_zero, List.set_cons_succ]
    refine wpAnyH_done (by kernel_rfl) ?_ _
    clear hHeld
    go_wp2_with fail
    go_ret
    exact ⟨rfl, Below.onto HE2.out HB5.out⟩
  · refine wp_region_held_drew (S := (fun w' => Below wc.heap.size wc w' ∧ w'.cell? ⟨bz, 0, none⟩ = some (.int .i64 wd) ∧ w'.cell? ⟨bp, 0, none⟩ = some (.pointer (some ⟨bb, 0, none⟩)) ∧ w'.cell? ⟨bb, 1, none⟩ = some (.int .i64 a) ∧ w'.cell? ⟨bb, 2, none⟩ = some (.int .i64 b) ∧ w'.cell? ⟨b5, 0, none⟩ = some (.int .i64 p1) ∧ w'.cell? ⟨b5, 1, none⟩ = some (.int .i64 p2))) (by kernel_rfl) (HKc.out _ ((Below.refl _ _).drew)) (fun hHeld => ?_)
    refine wpAnyH_take (i := 0) (v := ?_) rfl (by kernel_rfl) (by kernel_rfl) (by kernel_rfl) (fun _ _ _ h => h) (Or.inl ⟨by rfl, ?_⟩) (by assumption) ?_
    rotate_left
    focus ((intro wS hSw; (try dsimp only at hSw); go_simp); (try (with_reducible rfl)))
    simp only [Act.put, List.getElem_toArray, List.getElem_cons_zero, List.getElem_cons_succ, List.setIfInBounds_toArray, List.set_cons_zero, List.set_cons_succ]
    refine wpAnyH_take (i := 1) (v := ?_) rfl (by kernel_rfl) (by kernel_rfl) (by kernel_rfl) (fun _ _ _ h => h) (Or.inl ⟨by rfl, ?_⟩) (by assumption) ?_
    rotate_left
    focus ((intro wS hSw; (try dsimp only at hSw); go_simp); (try (with_reducible rfl)))
    simp only [Act.put, List.getElem_toArray, List.getElem_cons_zero, List.getElem_cons_succ, List.setIfInBounds_toArray, List.set_cons_zero, List.set_cons_succ]
    refine wpAnyH_take (i := 2) (v := ?_) rfl (by kernel_rfl) (by kernel_rfl) (by kernel_rfl) (fun _ _ _ h => h) (Or.inl ⟨by rfl, ?_⟩) (by assumption) ?_
    rotate_left
    focus ((intro wS hSw; (try dsimp only at hSw); go_simp); (try (with_reducible rfl)))
    simp only [Act.put, List.getElem_toArray, List.getElem_cons_zero, List.getElem_cons_succ, List.setIfInBounds_toArray, List.set_cons_zero, List.set_cons_succ]
    refine wpAnyH_take (i := 3) (v := ?_) rfl (by kernel_rfl) (by kernel_rfl) (by kernel_rfl) (fun _ _ _ h => h) (Or.inl ⟨by rfl, ?_⟩) (by assumption) ?_
    rotate_left
    focus ((intro wS hSw; (try dsimp only at hSw); go_simp); (try (with_reducible rfl)))
    simp only [Act.put, List.getElem_toArray, List.getElem_cons_zero, List.getElem_cons_succ, List.setIfInBounds_toArray, List.set_cons_zero, List.set_cons_succ]
    refine wpAnyH_take (i := 4) (v := ?_) rfl (by kernel_rfl) (by kernel_rfl) (by kernel_rfl) (fun _ _ _ h => h) (Or.inl ⟨by rfl, ?_⟩) (by assumption) ?_
    rotate_left
    focus ((intro wS hSw; (try dsimp only at hSw); go_simp); (try (with_reducible rfl)))
    simp only [Act.put, List.getElem_toArray, List.getElem_cons_zero, List.getElem_cons_succ, List.setIfInBounds_toArray, List.set_cons_zero, List.set_cons_succ]
    refine wpAnyH_take (i := 5) (v := ?_) rfl (by kernel_rfl) (by kernel_rfl) (by kernel_rfl) (fun _ _ _ h => h) (Or.inl ⟨by rfl, ?_⟩) (by assumption) ?_
    rotate_left
    focus ((intro wS hSw; (try dsimp only at hSw); go_simp); (try (with_reducible rfl)))
    simp only [Act.put, List.getElem_toArray, List.getElem_cons_zero, List.getElem_cons_succ, List.setIfInBounds_toArray, List.set_cons_zero, List.set_cons_succ]
    refine wpAnyH_ready (rs := [6]) (by kernel_rfl) (by simp) ?_
    refine AllReadyH.cons rfl (fun K hK => ?_) AllReadyH.nil
    go_simp
    refine (HL2.out _).mono ?_
    rintro e y1 ⟨rfl, hbx⟩
    have HE1 := Lib.hid (show Below wc.heap.size wc y1 from Below.drewL hbx)
    clear hbx
    refine hK.out _ _ (HKc.out _ HE1.out) (fun hHeld => ?_)
    clear hK K
    (try simp only [Act.put, List.getElem_toArray, List.getElem_cons_zero, List.getElem_cons_succ, List.setIfInBounds_toArray, List.set_cons_zero, List.set_cons_succ])
    refine wpAnyH_take (i := 7) (v := ?_) rfl (by kernel_rfl) (by kernel_rfl) (by kernel_rfl) (fun _ _ _ h => h) (Or.inl ⟨by rfl, ?_⟩) (by assumption) ?_
    rotate_left
    focus ((intro wS hSw; (try dsimp only at hSw); go_simp); (try (with_reducible rfl)))
    simp only [Act.put, List.getElem_toArray, List.getElem_cons_zero, List.getElem_cons_succ, List.setIfInBounds_toArray, List.set_cons_zero, List.set_cons_succ]
    refine wpAnyH_take (i := 8) (v := ?_) rfl (by kernel_rfl) (by kernel_rfl) (by kernel_rfl) (fun _ _ _ h => h) (Or.inl ⟨by rfl, ?_⟩) (by assumption) ?_
    rotate_left
    focus ((intro wS hSw; (try dsimp only at hSw); go_simp); (try (with_reducible rfl)))
    simp only [Act.put, List.getElem_toArray, List.getElem_cons_zero, List.getElem_cons_succ, List.setIfInBounds_toArray, List.set_cons_zero, List.set_cons_succ]
    refine wpAnyH_take (i := 9) (v := ?_) rfl (by kernel_rfl) (by kernel_rfl) (by kernel_rfl) (fun _ _ _ h => h) (Or.inl ⟨by rfl, ?_⟩) (by assumption) ?_
    rotate_left
    focus ((intro wS hSw; (try dsimp only at hSw); go_simp); (try (with_reducible rfl)))
    simp only [Act.put, List.getElem_toArray, List.getElem_cons_zero, List.getElem_cons_succ, List.setIfInBounds_toArray, List.set_cons_zero, List.set_cons_succ]
    refine wpAnyH_take (i := 10) (v := ?_) rfl (by kernel_rfl) (by kernel_rfl) (by kernel_rfl) (fun _ _ _ h => h) (Or.inl ⟨by rfl, ?_⟩) (by assumption) ?_
    rotate_left
    focus ((intro wS hSw; (try dsimp only at hSw); go_simp); (try (with_reducible rfl)))
    simp only [Act.put, List.getElem_toArray, List.getElem_cons_zero, List.getElem_cons_succ, List.setIfInBounds_toArray, List.set_cons_zero, List.set_cons_succ]
    refine wpAnyH_take (i := 11) (v := ?_) rfl (by kernel_rfl) (by kernel_rfl) (by kernel_rfl) (fun _ _ _ h => h) (Or.inl ⟨by rfl, ?_⟩) (by assumption) ?_
    rotate_left
    focus ((intro wS hSw; (try dsimp only at hSw); go_simp); (try (with_reducible rfl)))
    simp only [Act.put, List.getElem_toArray, List.getElem_cons_zero, List.getElem_cons_succ, List.setIfInBounds_toArray, List.set_cons_zero, List.set_cons_succ]
    refine wpAnyH_take (i := 12) (v := ?_) rfl (by kernel_rfl) (by kernel_rfl) (by kernel_rfl) (fun _ _ _ h => h) (Or.inl ⟨by rfl, ?_⟩) (by assumption) ?_
    rotate_left
    focus ((intro wS hSw; (try dsimp only at hSw); go_simp); (try (with_reducible rfl)))
    simp only [Act.put, List.getElem_toArray, List.getElem_cons_zero, List.getElem_cons_succ, List.setIfInBounds_toArray, List.set_cons_zero, List.set_cons_succ]
    refine wpAnyH_take (i := 13) (v := ?_) rfl (by kernel_rfl) (by kernel_rfl) (by kernel_rfl) (fun _ _ _ h => h) (Or.inl ⟨by rfl, ?_⟩) (by assumption) ?_
    rotate_left
    focus ((intro wS hSw; (try dsimp only at hSw); go_simp); (try (with_reducible rfl)))
    simp only [Act.put, List.getElem_toArray, List.getElem_cons_zero, List.getElem_cons_succ, List.setIfInBounds_toArray, List.set_cons_zero, List.set_cons_succ]
    refine wpAnyH_take (i := 15) (v := ?_) rfl (by kernel_rfl) (by kernel_rfl) (by kernel_rfl) (fun _ _ _ h => h) (Or.inl ⟨by rfl, ?_⟩) (by assumption) ?_
    rotate_left
    focus ((intro wS hSw; (try dsimp only at hSw); go_simp); (try (with_reducible rfl)))
    simp only [Act.put, List.getElem_toArray, List.getElem_cons_zero, List.getElem_cons_succ, List.setIfInBounds_toArray, List.set_cons_zero, List.set_cons_succ]
    refine wpAnyH_take (i := 16) (v := ?_) rfl (by kernel_rfl) (by kernel_rfl) (by kernel_rfl) (fun _ _ _ h => h) (Or.inl ⟨by rfl, ?_⟩) (by assumption) ?_
    rotate_left
    focus ((intro wS hSw; (try dsimp only at hSw); go_simp); (try (with_reducible rfl)))
    simp only [Act.put, List.getElem_toArray, List.getElem_cons_zero, List.getElem_cons_succ, List.setIfInBounds_toArray, List.set_cons_zero, List.set_cons_succ]
    refine wpAnyH_take (i := 17) (v := ?_) rfl (by kernel_rfl) (by kernel_rfl) (by kernel_rfl) (fun _ _ _ h => h) (Or.inl ⟨by rfl, ?_⟩) (by assumption) ?_
    rotate_left
    focus ((intro wS hSw; (try dsimp only at hSw); go_simp); (try (with_reducible rfl)))
    simp only [Act.put, List.getElem_toArray, List.getElem_cons_zero, List.getElem_cons_succ, List.setIfInBounds_toArray, List.set_cons_zero, List.set_cons_succ]
    refine wpAnyH_take (i := 18) (v := ?_) rfl (by kernel_rfl) (by kernel_rfl) (by kernel_rfl) (fun _ _ _ h => h) (Or.inl ⟨by rfl, ?_⟩) (by assumption) ?_
    rotate_left
    focus ((intro wS hSw; (try dsimp only at hSw); go_simp); (try (with_reducible rfl)))
    simp only [Act.put, List.getElem_toArray, List.getElem_cons_zero, List.getElem_cons_succ, List.setIfInBounds_toArray, List.set_cons_zero, List.set_cons_succ]
    refine wpAnyH_ready (rs := [14]) (by kernel_rfl) (by simp) ?_
    refine AllReadyH.cons rfl (fun K hK => ?_) AllReadyH.nil
    go_simp
    refine (HCP.out _).mono ?_
    rintro e y2 ⟨rfl, hbx⟩
    have HE2 := Lib.hid (Below.onto hbx HE1.out)
    clear hbx
    refine hK.out _ _ (HKc.out _ HE2.out) (fun hHeld => ?_)
    clear hK K
    (try simp only [Act.put, List.getElem_toArray, List.getElem_cons_zero, List.getElem_cons_succ, List.setIfInBounds_toArray, List.set_cons_zero, List.set_cons_succ])
    refine wpAnyH_take (i := 19) (v := ?_) rfl (by kernel_rfl) (by kernel_rfl) (by kernel_rfl) (fun _ _ _ h => h) (Or.inl ⟨by rfl, ?_⟩) (by assumption) ?_
    rotate_left
    focus ((intro wS hSw; (try dsimp only at hSw); go_simp); (try (with_reducible rfl)))
    simp only [Act.put, List.getElem_toArray, List.getElem_cons_zero, List.getElem_cons_succ, List.setIfInBounds_toArray, List.set_cons_zero, List.set_cons_succ]
    refine wpAnyH_take (i := 20) (v := ?_) rfl (by kernel_rfl) (by kernel_rfl) (by kernel_rfl) (fun _ _ _ h => h) (Or.inl ⟨by rfl, ?_⟩) (by assumption) ?_
    rotate_left
    focus ((intro wS hSw; (try dsimp only at hSw); go_simp); (try (with_reducible rfl)))
    simp only [Act.put, List.getElem_toArray, List.getElem_cons_zero, List.getElem_cons_succ, List.setIfInBounds_toArray, List.set_cons_zero, List.set_cons_succ]
    refine wpAnyH_take (i := 21) (v := ?_) rfl (by kernel_rfl) (by kernel_rfl) (by kernel_rfl) (fun _ _ _ h => h) (Or.inl ⟨by rfl, ?_⟩) (by assumption) ?_
    rotate_left
    focus ((intro wS hSw; (try dsimp only at hSw); go_simp); (try (with_reducible rfl)))
    simp only [Act.put, List.getElem_toArray, List.getElem_cons_zero, List.getElem_cons_succ, List.setIfInBounds_toArray, List.set_cons_zero, List.set_cons_succ]
    refine wpAnyH_done (by kernel_rfl) ?_ _
    clear hHeld
    go_wp2_with fail
    go_ret
    exact ⟨rfl, Below.onto HE2.out HB5.out⟩
/- Lc -/
structure Lnq where
  (l t r b n d : Int)
def lnqC (q : Lnq) : List Value := [.int .i64 q.l, .int .i64 q.t, .int .i64 q.r, .int .i64 q.b, .int .i64 q.n, .int .i64 q.d]
def lnqV (q : Lnq) : Value := .agg #[.agg #[.int .i64 q.l, .int .i64 q.t, .int .i64 q.r, .int .i64 q.b], .int .i64 q.n, .int .i64 q.d]
def topQ (L : List Fo) (a b y wd h : Int) : Int := firstL (soLn L a b wd h) y (rest (full (shelves L)) y)
def begQ (L : List Fo) (a b y wd h : Int) : Lnq := ⟨(freeS L a b (topQ L a b y wd h) h).1, topQ L a b y wd h, (freeS L a b (topQ L a b y wd h) h).2, topQ L a b y wd h + h, 1, wd⟩
def bldC (sp : Nat) (a b y : Int) (nw : Value) : Array Value := #[.pointer (some ⟨sp, 0, none⟩), .int .i64 a, .int .i64 b, .int .i64 y, nw]
def LBegPost (L : List Fo) (a b y wd h : Int) (bb sp : Nat) (w : World) (e : Ending) (w' : World) : Prop :=
  e = .returned (.tuple #[]) ∧ ∃ k, w.heap.size ≤ k ∧ w'.heap[k]? = some (.cells (lnqC (begQ L a b y wd h)).toArray 65 (0, 0)) ∧ w'.heap[bb]? = some (.cells (bldC sp a b y (.pointer (some ⟨k, 0, none⟩))) 135 (0, 0)) ∧ w.grownBy w' (some bb)
theorem tops_small {L : List Fo} (h : ∀ f ∈ L, smallF f = true) : ∀ s ∈ full (shelves L), -4503599627370496 ≤ s.t ∧ s.t ≤ 2251799813685248 := fun s hs => by
  rcases List.mem_cons.1 hs with rfl | hs
  · decide
  · obtain ⟨f, hf, e⟩ := tops_in L s hs
    have h2 := h f hf
    simp [smallF, smallR, smI] at h2
    rcases e with e | e <;> (rw [e]; omega)
theorem topQ_in {L : List Fo} (h : ∀ f ∈ L, smallF f = true) {a b y wd ht : Int} (hy : -4503599627370496 ≤ y ∧ y ≤ 2251799813685248) : -4503599627370496 ≤ topQ L a b y wd ht ∧ topQ L a b y wd ht ≤ 2251799813685248 := by
  unfold topQ
  rcases firstL_mem (soLn L a b wd ht) (rest (full (shelves L)) y) y with e | ⟨s, hs, e⟩
  · rw [e]; exact hy
  · rw [e]; exact tops_small h s (List.mem_of_mem_drop hs)
theorem cf_beg1 : ∀ (a : Array Value) (w : World), Sem.run Try.prog (callFunc 97 a) w = .ok (.enter 97 a) w := fun a w => by kernel_rfl
set_option maxRecDepth 20000 in
set_option maxHeartbeats 4000000 in
theorem begin_any13 (L : List Fo) (a b y wd h : Int) (bb : Nat) (nw : Value) (base sp : Nat) (w : World) (hs : SpaceIs w base sp L) (gb : w.heap[bb]? = some (.cells #[.pointer (some ⟨sp, 0, none⟩), .int .i64 a, .int .i64 b, .int .i64 y, nw] 135 (0, 0)))
    (hok : SpOk L) (hsm : ∀ f ∈ L, smallF f = true) (ha : -1125899906842624 ≤ a ∧ a ≤ 1125899906842624) (hb : -1125899906842624 ≤ b ∧ b ≤ 1125899906842624) (hy : -4503599627370496 ≤ y ∧ y ≤ 2251799813685248) (hh : -1125899906842624 ≤ h ∧ h ≤ 1125899906842624) :
    Calls Try.prog 69 #[.pointer (some ⟨bb, 0, none⟩), .agg #[.int .i64 wd, .int .i64 h]] w (LBegPost L a b y wd h bb sp w) := by
  obtain ⟨b0, hb0⟩ : ∃ b, w.heap.size = b := ⟨_, rfl⟩
  obtain ⟨W2, hW2⟩ : ∃ W, ((w.alloc (.cells #[.pointer (some ⟨bb, 0, none⟩)] 73)).alloc (.cells #[.int .i64 wd, .int .i64 h] 76)) = W := ⟨_, rfl⟩
  have hs2 : W2.heap.size = b0 + 2 := by rw [← hW2, ← hb0]; simp
  have r0 : W2.heap[b0]? = some (.cells #[.pointer (some ⟨bb, 0, none⟩)] 73 (0, 0)) := by rw [← hW2, ← hb0, heap_alloc_old _ _ (by first | (simp; done) | (simp; omega)), heap_alloc_new]
  have r1 : W2.heap[b0 + 1]? = some (.cells #[.int .i64 wd, .int .i64 h] 76 (0, 0)) := by rw [← hW2, ← hb0]; exact heap_alloc2_new w _ _
  have hB2 : Below w.heap.size w W2 := by rw [← hW2]; exact ((Below.refl _ _).alloc (Nat.le_refl _) _).alloc (by simp) _
  have gb2 := blk_keep gb hB2
  have hsp : ∀ w', Below W2.heap.size W2 w' → SpaceIs w' base sp L := fun w' hb => (hs.below hB2 (Nat.le_refl _)).below hb (Nat.le_refl _)
  have hfi := first_any L (soLn L a b wd h) 97 #[.pointer (some ⟨b0 + 1, 0, none⟩), .pointer (some ⟨b0, 0, none⟩)] base sp (fun _ w' => Below W2.heap.size W2 w') (fun y => -4503599627370496 ≤ y ∧ y ≤ 2251799813685248)
    (fun y w => cf_beg1 _ w) (fun _ w' h => hsp w' h) (fun A w2 w3 h hb => Below.onto hb h)
    (fun A y2 w2 hi hy2 => by
      refine (lso_any L a b wd h y2 bb (b0 + 1) b0 (.int .i64 y) nw 76 73 base sp w2 (hsp w2 hi) (blk_keep gb2 hi) (blk_keep r1 hi) (blk_keep r0 hi) hok hsm ha hb hy2 hh).mono ?_
      rintro e w3 ⟨rfl, h5⟩
      exact ⟨rfl, Below.onto h5 hi⟩)
    hok y hy (tops_small hsm)
  have hti := topQ_in (a := a) (b := b) (wd := wd) (ht := h) hsm hy
  have hbx := fun w hw hk => box_any L a b (topQ L a b y wd h) h bb (.int .i64 y) nw base sp w hw hk hok ha hb hti hh
  unfold FirstPost at hfi
  unfold LBegPost begQ
  have htop : firstL (soLn L a b wd h) y (rest (full (shelves L)) y) = topQ L a b y wd h := rfl
  rw [htop] at hfi
  obtain ⟨tp, htp⟩ : ∃ t, topQ L a b y wd h = t := ⟨_, rfl⟩
  rw [htp] at hfi hbx hti ⊢
  obtain ⟨⟨f1, f2⟩, hf⟩ : ∃ p, freeS L a b tp h = p := ⟨_, rfl⟩
  rw [hf] at hbx ⊢
  simp only at hbx ⊢
  have HFI := Lib.hid hfi
  have HBX := Lib.hid hbx
  have HSP := Lib.hid hsp
  have HW2 := Lib.hid hW2
  have HB0 := Lib.hid hb0
  have HB2 := Lib.hid hB2
  have HS2 := Lib.hid hs2
  have GB2 := Lib.hid gb2
  have R0 := Lib.hid r0
  have R1 := Lib.hid r1
  have GLT := Lib.hid (Array.getElem?_eq_some_iff.1 gb).1
  have HK : Hid (∀ w', Below W2.heap.size W2 w' → Below W2.heap.size W2 w' ∧ w'.cell? ⟨b0, 0, none⟩ = some (.pointer (some ⟨bb, 0, none⟩)) ∧ w'.cell? ⟨bb, 0, none⟩ = some (.pointer (some ⟨sp, 0, none⟩)) ∧ w'.cell? ⟨bb, 3, none⟩ = some (.int .i64 y)) := Lib.hid fun w' e =>
    have h1 := box5v (blk_keep gb2 e)
    ⟨e, cell_of_row w' b0 0 _ _ (0, 0) (blk_keep r0 e), h1.1, h1.2.2.2.1⟩
  clear hfi hbx hsp hW2 hb0 hB2 hs2 gb2 r0 r1 hs gb hok hsm ha hb hy hh hti hf htp htop
  go_enter Try.func69, Try.ntmps69
  go_wp2_with fail
  rw [HW2.out, HB0.out]
  refine wp_region_held_drew (S := (fun w' => Below W2.heap.size W2 w' ∧ w'.cell? ⟨b0, 0, none⟩ = some (.pointer (some ⟨bb, 0, none⟩)) ∧ w'.cell? ⟨bb, 0, none⟩ = some (.pointer (some ⟨sp, 0, none⟩)) ∧ w'.cell? ⟨bb, 3, none⟩ = some (.int .i64 y))) (by kernel_rfl) (HK.out _ ((Below.refl _ _).drew)) (fun hHeld => ?_)
  refine wpAnyH_take (i := 0) (v := ?_) rfl (by kernel_rfl) (by kernel_rfl) (by kernel_rfl) (fun _ _ _ h => h) (Or.inl ⟨by rfl, ?_⟩) (by assumption) ?_
  rotate_left
  focus ((intro wS hSw; (try dsimp only at hSw); go_simp); (try (with_reducible rfl)))
  simp only [Act.put, List.getElem_toArray, List.getElem_cons_zero, List.getElem_cons_succ, List.setIfInBounds_toArray, List.set_cons_zero, List.set_cons_succ]
  refine wpAnyH_take (i := 1) (v := ?_) rfl (by kernel_rfl) (by kernel_rfl) (by kernel_rfl) (fun _ _ _ h => h) (Or.inl ⟨by rfl, ?_⟩) (by assumption) ?_
  rotate_left
  focus ((intro wS hSw; (try dsimp only at hSw); go_simp); (try (with_reducible rfl)))
  simp only [Act.put, List.getElem_toArray, List.getElem_cons_zero, List.getElem_cons_succ, List.setIfInBounds_toArray, List.set_cons_zero, List.set_cons_succ]
  refine wpAnyH_take (i := 2) (v := ?_) rfl (by kernel_rfl) (by kernel_rfl) (by kernel_rfl) (fun _ _ _ h => h) (Or.inl ⟨by rfl, ?_⟩) (by assumption) ?_
  rotate_left
  focus ((intro wS hSw; (try dsimp only at hSw); go_simp); (try (with_reducible rfl)))
  simp only [Act.put, List.getElem_toArray, List.getElem_cons_zero, List.getElem_cons_succ, List.setIfInBounds_toArray, List.set_cons_zero, List.set_cons_succ]
  refine wpAnyH_take (i := 3) (v := ?_) rfl (by kernel_rfl) (by kernel_rfl) (by kernel_rfl) (fun _ _ _ h => h) (Or.inl ⟨by rfl, ?_⟩) (by assumption) ?_
  rotate_left
  focus ((intro wS hSw; (try dsimp only at hSw); go_simp); (try (with_reducible rfl)))
  simp only [Act.put, List.getElem_toArray, List.getElem_cons_zero, List.getElem_cons_succ, List.setIfInBounds_toArray, List.set_cons_zero, List.set_cons_succ]
  refine wpAnyH_take (i := 4) (v := ?_) rfl (by kernel_rfl) (by kernel_rfl) (by kernel_rfl) (fun _ _ _ h => h) (Or.inl ⟨by rfl, ?_⟩) (by assumption) ?_
  rotate_left
  focus ((intro wS hSw; (try dsimp only at hSw); go_simp); (try (with_reducible rfl)))
  simp only [Act.put, List.getElem_toArray, List.getElem_cons_zero, List.getElem_cons_succ, List.setIfInBounds_toArray, List.set_cons_zero, List.set_cons_succ]
  refine wpAnyH_take (i := 5) (v := ?_) rfl (by kernel_rfl) (by kernel_rfl) (by kernel_rfl) (fun _ _ _ h => h) (Or.inl ⟨by rfl, ?_⟩) (by assumption) ?_
  rotate_left
  focus ((intro wS hSw; (try dsimp only at hSw); go_simp); (try (with_reducible rfl)))
  simp only [Act.put, List.getElem_toArray, List.getElem_cons_zero, List.getElem_cons_succ, List.setIfInBounds_toArray, List.set_cons_zero, List.set_cons_succ]
  refine wpAnyH_take (i := 6) (v := ?_) rfl (by kernel_rfl) (by kernel_rfl) (by kernel_rfl) (fun _ _ _ h => h) (Or.inl ⟨by rfl, ?_⟩) (by assumption) ?_
  rotate_left
  focus ((intro wS hSw; (try dsimp only at hSw); go_simp); (try (with_reducible rfl)))
  simp only [Act.put, List.getElem_toArray, List.getElem_cons_zero, List.getElem_cons_succ, List.setIfInBounds_toArray, List.set_cons_zero, List.set_cons_succ]
  refine wpAnyH_take (i := 7) (v := ?_) rfl (by kernel_rfl) (by kernel_rfl) (by kernel_rfl) (fun _ _ _ h => h) (Or.inl ⟨by rfl, ?_⟩) (by assumption) ?_
  rotate_left
  focus ((intro wS hSw; (try dsimp only at hSw); go_simp); (try (with_reducible rfl)))
  simp only [Act.put, List.getElem_toArray, List.getElem_cons_zero, List.getElem_cons_succ, List.setIfInBounds_toArray, List.set_cons_zero, List.set_cons_succ]
  refine wpAnyH_take (i := 8) (v := ?_) rfl (by kernel_rfl) (by kernel_rfl) (by kernel_rfl) (fun _ _ _ h => h) (Or.inl ⟨by rfl, ?_⟩) (by assumption) ?_
  rotate_left
  focus ((intro wS hSw; (try dsimp only at hSw); go_simp); (try (with_reducible rfl)))
  simp only [Act.put, List.getElem_toArray, List.getElem_cons_zero, List.getElem_cons_succ, List.setIfInBounds_toArray, List.set_cons_zero, List.set_cons_succ]
  refine wpAnyH_ready (rs := [9]) (by kernel_rfl) (by simp) ?_
  refine AllReadyH.cons rfl (fun K hK => ?_) AllReadyH.nil
  go_simp
  refine (HFI.out _ ((Below.refl _ _).drew)).mono ?_
  rintro e y1 ⟨rfl, hbx⟩
  have HE1 := Lib.hid (show Below W2.heap.size W2 y1 from hbx)
  clear hbx
  refine hK.out _ _ (HK.out _ HE1.out) (fun hHeld => ?_)
  clear hK K
  (try simp only [Act.put, List.getElem_toArray, List.getElem_cons_zero, List.getElem_cons_succ, List.setIfInBounds_toArray, List.set_cons_zero, List.set_cons_succ])
  refine wpAnyH_take (i := 10) (v := ?_) rfl (by kernel_rfl) (by kernel_rfl) (by kernel_rfl) (fun _ _ _ h => h) (Or.inl ⟨by rfl, ?_⟩) (by assumption) ?_
  rotate_left
  focus ((intro wS hSw; (try dsimp only at hSw); go_simp); (try (with_reducible rfl)))
  simp only [Act.put, List.getElem_toArray, List.getElem_cons_zero, List.getElem_cons_succ, List.setIfInBounds_toArray, List.set_cons_zero, List.set_cons_succ]
  refine wpAnyH_done (by kernel_rfl) ?_ _
  clear hHeld
  have HGY := Lib.hid (blk_keep GB2.out HE1.out)
  have HSY := Lib.hid (HSP.out _ HE1.out)
  have hzy := HE1.out.size
  have HK2 : Hid (∀ w' : World, Below y1.heap.size y1 w' → w'.cell? ⟨b0, 0, none⟩ = some (.pointer (some ⟨bb, 0, none⟩)) ∧ w'.cell? ⟨b0 + 1, 0, none⟩ = some (.int .i64 wd) ∧ w'.cell? ⟨b0 + 1, 1, none⟩ = some (.int .i64 h)) := Lib.hid fun w' e =>
    have e2 := Below.onto e HE1.out
    ⟨cell_of_row w' b0 0 _ _ (0, 0) (blk_keep R0.out e2), cell_of_row w' (b0 + 1) 0 _ _ (0, 0) (blk_keep R1.out e2), cell_of_row w' (b0 + 1) 1 _ _ (0, 0) (blk_keep R1.out e2)⟩
  go_wp2_with fail
  refine wp_region_held_drew (S := (fun w' => w'.cell? ⟨b0, 0, none⟩ = some (.pointer (some ⟨bb, 0, none⟩)) ∧ w'.cell? ⟨b0 + 1, 0, none⟩ = some (.int .i64 wd) ∧ w'.cell? ⟨b0 + 1, 1, none⟩ = some (.int .i64 h))) (by kernel_rfl) (HK2.out _ ((Below.refl _ _).drew)) (fun hHeld => ?_)
  refine wpAnyH_take (i := 0) (v := ?_) rfl (by kernel_rfl) (by kernel_rfl) (by kernel_rfl) (fun _ _ _ h => h) (Or.inl ⟨by rfl, ?_⟩) (by assumption) ?_
  rotate_left
  focus ((intro wS hSw; (try dsimp only at hSw); go_simp); (try (with_reducible rfl)))
  simp only [Act.put, List.getElem_toArray, List.getElem_cons_zero, List.getElem_cons_succ, List.setIfInBounds_toArray, List.set_cons_zero, List.set_cons_succ]
  refine wpAnyH_take (i := 1) (v := ?_) rfl (by kernel_rfl) (by kernel_rfl) (by kernel_rfl) (fun _ _ _ h => h) (Or.inl ⟨by rfl, ?_⟩) (by assumption) ?_
  rotate_left
  focus ((intro wS hSw; (try dsimp only at hSw); go_simp); (try (with_reducible rfl)))
  simp only [Act.put, List.getElem_toArray, List.getElem_cons_zero, List.getElem_cons_succ, List.setIfInBounds_toArray, List.set_cons_zero, List.set_cons_succ]
  refine wpAnyH_take (i := 2) (v := ?_) rfl (by kernel_rfl) (by kernel_rfl) (by kernel_rfl) (fun _ _ _ h => h) (Or.inl ⟨by rfl, ?_⟩) (by assumption) ?_
  rotate_left
  focus ((intro wS hSw; (try dsimp only at hSw); go_simp); (try (with_reducible rfl)))
  simp only [Act.put, List.getElem_toArray, List.getElem_cons_zero, List.getElem_cons_succ, List.setIfInBounds_toArray, List.set_cons_zero, List.set_cons_succ]
  refine wpAnyH_take (i := 3) (v := ?_) rfl (by kernel_rfl) (by kernel_rfl) (by kernel_rfl) (fun _ _ _ h => h) (Or.inl ⟨by rfl, ?_⟩) (by assumption) ?_
  rotate_left
  focus ((intro wS hSw; (try dsimp only at hSw); go_simp); (try (with_reducible rfl)))
  simp only [Act.put, List.getElem_toArray, List.getElem_cons_zero, List.getElem_cons_succ, List.setIfInBounds_toArray, List.set_cons_zero, List.set_cons_succ]
  refine wpAnyH_take (i := 4) (v := ?_) rfl (by kernel_rfl) (by kernel_rfl) (by kernel_rfl) (fun _ _ _ h => h) (Or.inl ⟨by rfl, ?_⟩) (by assumption) ?_
  rotate_left
  focus ((intro wS hSw; (try dsimp only at hSw); go_simp); (try (with_reducible rfl)))
  simp only [Act.put, List.getElem_toArray, List.getElem_cons_zero, List.getElem_cons_succ, List.setIfInBounds_toArray, List.set_cons_zero, List.set_cons_succ]
  refine wpAnyH_take (i := 6) (v := ?_) rfl (by kernel_rfl) (by kernel_rfl) (by kernel_rfl) (fun _ _ _ h => h) (Or.inl ⟨by rfl, ?_⟩) (by assumption) ?_
  rotate_left
  focus ((intro wS hSw; (try dsimp only at hSw); go_simp); (try (with_reducible rfl)))
  simp only [Act.put, List.getElem_toArray, List.getElem_cons_zero, List.getElem_cons_succ, List.setIfInBounds_toArray, List.set_cons_zero, List.set_cons_succ]
  refine wpAnyH_take (i := 7) (v := ?_) rfl (by kernel_rfl) (by kernel_rfl) (by kernel_rfl) (fun _ _ _ h => h) (Or.inl ⟨by rfl, ?_⟩) (by assumption) ?_
  rotate_left
  focus ((intro wS hSw; (try dsimp only at hSw); go_simp); (try (with_reducible rfl)))
  simp only [Act.put, List.getElem_toArray, List.getElem_cons_zero, List.getElem_cons_succ, List.setIfInBounds_toArray, List.set_cons_zero, List.set_cons_succ]
  refine wpAnyH_ready (rs := [5]) (by kernel_rfl) (by simp) ?_
  refine AllReadyH.cons rfl (fun K hK => ?_) AllReadyH.nil
  go_simp
  refine (HBX.out _ (HSY.out.below (Below.refl _ _).drew (Nat.le_refl _)) HGY.out).mono ?_
  rintro e z1 ⟨rfl, hbx⟩
  have HZ1 := Lib.hid (show Below y1.heap.size y1 z1 from Below.drewL hbx)
  clear hbx
  refine hK.out _ _ (HK2.out _ HZ1.out) (fun hHeld => ?_)
  clear hK K
  (try simp only [Act.put, List.getElem_toArray, List.getElem_cons_zero, List.getElem_cons_succ, List.setIfInBounds_toArray, List.set_cons_zero, List.set_cons_succ])
  refine wpAnyH_take (i := 8) (v := ?_) rfl (by kernel_rfl) (by kernel_rfl) (by kernel_rfl) (fun _ _ _ h => h) (Or.inl ⟨by rfl, ?_⟩) (by assumption) ?_
  rotate_left
  focus ((intro wS hSw; (try dsimp only at hSw); go_simp); (try (with_reducible rfl)))
  simp only [Act.put, List.getElem_toArray, List.getElem_cons_zero, List.getElem_cons_succ, List.setIfInBounds_toArray, List.set_cons_zero, List.set_cons_succ]
  refine wpAnyH_ready (rs := [9]) (by kernel_rfl) (by simp) ?_
  refine AllReadyH.cons rfl (fun K hK => ?_) AllReadyH.nil
  go_simp
  have HA := Lib.hid ((HZ1.out).alloc HZ1.out.size (.cells #[.int .i64 f1, .int .i64 tp, .int .i64 f2, .int .i64 (tp + h), .int .i64 1, .int .i64 wd] 65))
  have hbk := blk_keep HGY.out HA.out
  have hnk := heap_alloc_new z1 (.cells #[.int .i64 f1, .int .i64 tp, .int .i64 f2, .int .i64 (tp + h), .int .i64 1, .int .i64 wd] 65)
  have HBK := Lib.hid hbk
  have HNK := Lib.hid hnk
  have k4 := (box5v hbk).2.2.2.2
  have fz := frozen_of_row _ bb 4 _ _ hbk
  clear hbk hnk
  refine hK.out _ _ (HK2.out _ HA.out) (fun hHeld => ?_)
  clear hK K
  (try simp only [Act.put, List.getElem_toArray, List.getElem_cons_zero, List.getElem_cons_succ, List.setIfInBounds_toArray, List.set_cons_zero, List.set_cons_succ])
  refine wpAnyH_take (i := 10) (v := ?_) rfl (by kernel_rfl) (by kernel_rfl) (by kernel_rfl) (fun _ _ _ h => h) (Or.inl ⟨by rfl, ?_⟩) (by assumption) ?_
  rotate_left
  focus ((intro wS hSw; (try dsimp only at hSw); go_simp); (try (with_reducible rfl)))
  simp only [Act.put, List.getElem_toArray, List.getElem_cons_zero, List.getElem_cons_succ, List.setIfInBounds_toArray, List.set_cons_zero, List.set_cons_succ]
  refine wpAnyH_take (i := 11) (v := ?_) rfl (by kernel_rfl) (by kernel_rfl) (by kernel_rfl) (fun _ _ _ h => h) (Or.inl ⟨by rfl, ?_⟩) (by assumption) ?_
  rotate_left
  focus ((intro wS hSw; (try dsimp only at hSw); go_simp); (try (with_reducible rfl)))
  simp only [Act.put, List.getElem_toArray, List.getElem_cons_zero, List.getElem_cons_succ, List.setIfInBounds_toArray, List.set_cons_zero, List.set_cons_succ]
  refine wpAnyH_ready (rs := [12]) (by kernel_rfl) (by simp) ?_
  refine AllReadyH.cons rfl (fun K hK => ?_) AllReadyH.nil
  go_simp
  obtain ⟨z2, hz2⟩ : ∃ z, z1.alloc (.cells #[.int .i64 f1, .int .i64 tp, .int .i64 f2, .int .i64 (tp + h), .int .i64 1, .int .i64 wd] 65) = z := ⟨_, rfl⟩
  rw [hz2] at HBK HNK HA ⊢
  have hst := heap_setCell_same z2 bb 4 _ _ (.pointer (some ⟨z1.heap.size, 0, none⟩)) HBK.out
  have hgs : z2.grownBy (z2.setCell ⟨bb, 4, none⟩ (.pointer (some ⟨z1.heap.size, 0, none⟩))) (some bb) := grown_setCells bb [.pointer (some ⟨z1.heap.size, 0, none⟩)] 4 z2
  have hz1 := HZ1.out.size
  have hnb : z1.heap.size ≠ bb := by have := GLT.out; have := HB2.out.size; omega
  have hnk2 := (hgs.block z1.heap.size (Array.getElem?_eq_some_iff.1 HNK.out).1 (by intro e; injection e with e; exact hnb e)).trans HNK.out
  have hgw : w.grownBy (z2.setCell ⟨bb, 4, none⟩ (.pointer (some ⟨z1.heap.size, 0, none⟩))) (some bb) := grown_trans (grown_of_below (Below.onto HA.out (Below.onto HE1.out HB2.out)) _) hgs
  obtain ⟨z3, hz3⟩ : ∃ z, z2.setCell ⟨bb, 4, none⟩ (.pointer (some ⟨z1.heap.size, 0, none⟩)) = z := ⟨_, rfl⟩
  rw [hz3] at hst hgs hnk2 hgw ⊢
  have HST := Lib.hid hst
  have HNK2 := Lib.hid hnk2
  have HGW := Lib.hid hgw
  have HZ3 := Lib.hid (show w.heap.size ≤ z1.heap.size by have := HB2.out.size; omega)
  have hHeld3 : z3.cell? ⟨b0, 0, none⟩ = some (.pointer (some ⟨bb, 0, none⟩)) ∧ z3.cell? ⟨b0 + 1, 0, none⟩ = some (.int .i64 wd) ∧ z3.cell? ⟨b0 + 1, 1, none⟩ = some (.int .i64 h) := by
    have e1 := Below.onto HA.out HE1.out
    have q0 := blk_keep R0.out e1
    have q1 := blk_keep R1.out e1
    have n0 : b0 ≠ bb := by have := GLT.out; have := HB0.out; omega
    have n1 : b0 + 1 ≠ bb := by have := GLT.out; have := HB0.out; omega
    have k0 := (hgs.block b0 (Array.getElem?_eq_some_iff.1 q0).1 (by intro e; injection e with e; exact n0 e)).trans q0
    have k1 := (hgs.block (b0 + 1) (Array.getElem?_eq_some_iff.1 q1).1 (by intro e; injection e with e; exact n1 e)).trans q1
    exact ⟨cell_of_row z3 b0 0 _ _ (0, 0) k0, cell_of_row z3 (b0 + 1) 0 _ _ (0, 0) k1, cell_of_row z3 (b0 + 1) 1 _ _ (0, 0) k1⟩
  clear hst hgs hnk2 hgw k4 fz
  refine hK.out _ _ hHeld3 (fun hHeld => ?_)
  clear hK K hHeld3
  (try simp only [Act.put, List.getElem_toArray, List.getElem_cons_zero, List.getElem_cons_succ, List.setIfInBounds_toArray, List.set_cons_zero, List.set_cons_succ])
  refine wpAnyH_done (by kernel_rfl) ?_ _
  clear hHeld
  go_wp2_with fail
  refine bodyPost_end (results_none rfl _ _ _) rfl ?_
  exact ⟨rfl, _, HZ3.out, HNK2.out, HST.out, HGW.out⟩
/- Ld -/
theorem grown_from {a b c : World} {row own : Option Nat} (h : a.grownBy b row) (h' : b.grownBy c own) (ho : ∀ j, own = some j → a.heap.size ≤ j) : a.grownBy c row :=
  ⟨h'.os.trans h.os, h'.tape.trans h.tape, h'.output.trans h.output, Nat.le_trans h.size h'.size, fun k hk hr => (h'.block k (Nat.lt_of_lt_of_le hk h.size) (fun e => by have := ho k e.symm; omega)).trans (h.block k hk hr)⟩
def ln0 : Lnq := ⟨0, 0, 0, 0, 0, 0⟩
theorem lnq6 {w : World} {k : Nat} {q : Lnq} {T : TypeId} (h : w.heap[k]? = some (.cells (lnqC q).toArray T (0, 0))) :
    w.cell? ⟨k, 0, none⟩ = some (.int .i64 q.l) ∧ w.cell? ⟨k, 1, none⟩ = some (.int .i64 q.t) ∧ w.cell? ⟨k, 2, none⟩ = some (.int .i64 q.r) ∧ w.cell? ⟨k, 3, none⟩ = some (.int .i64 q.b) ∧ w.cell? ⟨k, 4, none⟩ = some (.int .i64 q.n) ∧ w.cell? ⟨k, 5, none⟩ = some (.int .i64 q.d) :=
  ⟨cell_of_row w k 0 _ _ (0, 0) h, cell_of_row w k 1 _ _ (0, 0) h, cell_of_row w k 2 _ _ (0, 0) h, cell_of_row w k 3 _ _ (0, 0) h, cell_of_row w k 4 _ _ (0, 0) h, cell_of_row w k 5 _ _ (0, 0) h⟩
theorem lnqNew (w : World) (q : Lnq) : (w.alloc (.cells (lnqC q).toArray 65)).heap[w.heap.size]? = some (.cells (lnqC q).toArray 65 (0, 0)) := heap_alloc_new w _
def NowPost (q : Lnq) (ok : Bool) (w : World) (e : Ending) (w' : World) : Prop := e = .returned (.tuple #[.agg (lnqC q).toArray, .bool ok]) ∧ Below w.heap.size w w'
set_option maxRecDepth 20000 in
set_option maxHeartbeats 4000000 in
theorem now_none (bb : Nat) (x0 x1 x2 x3 : Value) (w : World) (gb : w.heap[bb]? = some (.cells #[x0, x1, x2, x3, .pointer none] 135 (0, 0))) :
    Calls Try.prog 38 #[.pointer (some ⟨bb, 0, none⟩)] w (NowPost ln0 false w) := by
  unfold NowPost
  have hA := (Below.refl w.heap.size w).alloc (Nat.le_refl _) (.cells (lnqC ln0).toArray 65)
  have hn := lnqNew w ln0
  have hb := blk_keep gb hA
  have x4 : (w.alloc (.cells #[.int .i64 0, .int .i64 0, .int .i64 0, .int .i64 0, .int .i64 0, .int .i64 0] 65)).cell? ⟨bb, 4, none⟩ = some (.pointer none) := (box5v hb).2.2.2.2
  have HN := Lib.hid (show (w.alloc (.cells #[.int .i64 0, .int .i64 0, .int .i64 0, .int .i64 0, .int .i64 0, .int .i64 0] 65)).heap[w.heap.size]? = some (.cells #[.int .i64 0, .int .i64 0, .int .i64 0, .int .i64 0, .int .i64 0, .int .i64 0] 65 (0, 0)) from hn)
  have HA := Lib.hid (show Below w.heap.size w (w.alloc (.cells #[.int .i64 0, .int .i64 0, .int .i64 0, .int .i64 0, .int .i64 0, .int .i64 0] 65)) from hA)
  clear gb hA hn hb
  go_enter Try.func38, Try.ntmps38
  go_wp2_with fail
  obtain ⟨d0, d1, d2, d3, d4, d5⟩ := lnq6 (q := ln0) HN.out
  refine bodyPost_ret (v := .tuple #[.agg (lnqC ln0).toArray, .bool false]) (by simp [results, Try.results38, go_sem, d0, d1, d2, d3, d4, d5, lnqC, ln0]) rfl ⟨rfl, HA.out⟩
set_option maxRecDepth 20000 in
set_option maxHeartbeats 4000000 in
theorem now_some (q : Lnq) (bb k : Nat) (x0 x1 x2 x3 : Value) (w : World) (gb : w.heap[bb]? = some (.cells #[x0, x1, x2, x3, .pointer (some ⟨k, 0, none⟩)] 135 (0, 0))) (gk : w.heap[k]? = some (.cells (lnqC q).toArray 65 (0, 0))) :
    Calls Try.prog 38 #[.pointer (some ⟨bb, 0, none⟩)] w (NowPost q true w) := by
  unfold NowPost
  have hA := (Below.refl w.heap.size w).alloc (Nat.le_refl _) (.cells (lnqC ln0).toArray 65)
  have hn := lnqNew w ln0
  have hb := blk_keep gb hA
  have x4 : (w.alloc (.cells #[.int .i64 0, .int .i64 0, .int .i64 0, .int .i64 0, .int .i64 0, .int .i64 0] 65)).cell? ⟨bb, 4, none⟩ = some (.pointer (some ⟨k, 0, none⟩)) := (box5v hb).2.2.2.2
  obtain ⟨y0, y1, y2, y3, y4, y5⟩ := lnq6 (w := w.alloc (.cells #[.int .i64 0, .int .i64 0, .int .i64 0, .int .i64 0, .int .i64 0, .int .i64 0] 65)) (blk_keep gk hA)
  obtain ⟨k0, hk0⟩ : ∃ b, w.heap.size = b := ⟨_, rfl⟩
  have HN := Lib.hid (show (w.alloc (.cells #[.int .i64 0, .int .i64 0, .int .i64 0, .int .i64 0, .int .i64 0, .int .i64 0] 65)).heap[k0]? = some (.cells #[.int .i64 0, .int .i64 0, .int .i64 0, .int .i64 0, .int .i64 0, .int .i64 0] 65 (0, 0)) by rw [← hk0]; exact hn)
  have HA := Lib.hid (show Below w.heap.size w (w.alloc (.cells #[.int .i64 0, .int .i64 0, .int .i64 0, .int .i64 0, .int .i64 0, .int .i64 0] 65)) from hA)
  have HK0 := Lib.hid hk0
  obtain ⟨l, t, r, b, n, d⟩ := q
  simp only at y0 y1 y2 y3 y4 y5
  clear gb hA hn hb gk hk0
  go_enter Try.func38, Try.ntmps38
  go_wp2_with (first
    | (rw [HK0.out]; (with_reducible refine store_row (dst := none) 65 (.tmp 2) (.tmp 15) k0 _ #[.int .i64 l, .int .i64 t, .int .i64 r, .int .i64 b, .int .i64 n, .int .i64 d] 65 HN.out ?_ ?_ ?_ ?_ ?_ ?_); rfl; rfl; exact lineInfo; rfl; (simp [Value.oneCell']); intro w6 hw6 hg6 hz7; have HW6 := Lib.hid hw6; have HG6 := Lib.hid hg6; clear hw6 hg6))
  obtain ⟨d0, d1, d2, d3, d4, d5⟩ := lnq6 (q := ⟨l, t, r, b, n, d⟩) HW6.out
  refine bodyPost_ret (v := .tuple #[.agg #[.int .i64 l, .int .i64 t, .int .i64 r, .int .i64 b, .int .i64 n, .int .i64 d], .bool true]) (by simp [results, Try.results38, go_sem, d0, d1, d2, d3, d4, d5]) rfl ⟨rfl, HA.out.grown HG6.out (by simp) (fun j hj => by have := HK0.out; simp at hj; omega)⟩
def EndPost (q : Lnq) (ok : Bool) (bb sp : Nat) (a b y : Int) (w : World) (e : Ending) (w' : World) : Prop := e = .returned (.tuple #[.agg (lnqC q).toArray, .bool ok]) ∧ w'.heap[bb]? = some (.cells (bldC sp a b y (.pointer none)) 135 (0, 0)) ∧ w.grownBy w' (some bb)
set_option maxRecDepth 20000 in
set_option maxHeartbeats 4000000 in
theorem end_none (bb sp : Nat) (a b y : Int) (w : World) (gb : w.heap[bb]? = some (.cells #[.pointer (some ⟨sp, 0, none⟩), .int .i64 a, .int .i64 b, .int .i64 y, .pointer none] 135 (0, 0))) :
    Calls Try.prog 66 #[.pointer (some ⟨bb, 0, none⟩)] w (EndPost ln0 false bb sp a b y w) := by
  unfold EndPost bldC
  have hA := (Below.refl w.heap.size w).alloc (Nat.le_refl _) (.cells (lnqC ln0).toArray 65)
  have hn := lnqNew w ln0
  have hb := blk_keep gb hA
  obtain ⟨k0, hk0⟩ : ∃ b, w.heap.size = b := ⟨_, rfl⟩
  obtain ⟨w1, hw1⟩ : ∃ z, w.alloc (.cells #[.int .i64 0, .int .i64 0, .int .i64 0, .int .i64 0, .int .i64 0, .int .i64 0] 65) = z := ⟨_, rfl⟩
  rw [show w.alloc (.cells (lnqC ln0).toArray 65) = w1 from hw1] at hA hn hb
  rw [hk0] at hn
  have hnow := now_none bb _ _ _ _ w1 hb
  have HLT := Lib.hid (Array.getElem?_eq_some_iff.1 gb).1
  unfold NowPost at hnow
  have HNOW := Lib.hid hnow
  have HW1 := Lib.hid hw1
  have HK0 := Lib.hid hk0
  have HN := Lib.hid hn
  have HA := Lib.hid hA
  have HB := Lib.hid hb
  clear gb hA hn hb hnow hw1 hk0
  go_enter Try.func66, Try.ntmps66
  go_wp2_with fail
  rw [HW1.out, HK0.out]
  refine HNOW.out.mono ?_
  rintro e w2 ⟨rfl, hb2⟩
  have hN2 := blk_keep HN.out hb2
  have hB2 := blk_keep HB.out hb2
  have hA2 := Below.onto hb2 HA.out
  have hk1 : k0 < w2.heap.size := (Array.getElem?_eq_some_iff.1 hN2).1
  have hb1 : bb < w2.heap.size := (Array.getElem?_eq_some_iff.1 hB2).1
  have hN3 := old_some (o' := (.cells #[.int .i64 0, .int .i64 0, .int .i64 0, .int .i64 0, .int .i64 0, .int .i64 0] 65)) hN2
  have hB3 := old_some (o' := (.cells #[.int .i64 0, .int .i64 0, .int .i64 0, .int .i64 0, .int .i64 0, .int .i64 0] 65)) hB2
  have hA3 := hA2.alloc hA2.size (.cells #[.int .i64 0, .int .i64 0, .int .i64 0, .int .i64 0, .int .i64 0, .int .i64 0] 65)
  have hnw := lnqNew w2 ln0
  have HN3 := Lib.hid hN3
  have HB3 := Lib.hid hB3
  have HA3 := Lib.hid hA3
  have HNW := Lib.hid (show (w2.alloc (.cells #[.int .i64 0, .int .i64 0, .int .i64 0, .int .i64 0, .int .i64 0, .int .i64 0] 65)).heap[w2.heap.size]? = some (.cells (lnqC ln0).toArray 65 (0, 0)) from hnw)
  clear hb2 hN2 hB2 hA2 hN3 hB3 hA3 hnw
  simp only [lnqC, ln0]
  go_wp2_with (first
    | ((with_reducible refine store_row (dst := none) 65 (.tmp 4) (.tmp 9) w2.heap.size _ #[.int .i64 0, .int .i64 0, .int .i64 0, .int .i64 0, .int .i64 0, .int .i64 0] 65 HNW.out ?_ ?_ ?_ ?_ ?_ ?_); rfl; rfl; exact lineInfo; rfl; (simp [Value.oneCell']); intro w6 hw6 hg6 hz7; have HW6 := Lib.hid hw6; have HG6 := Lib.hid hg6; obtain ⟨d0, d1, d2, d3, d4, d5⟩ := lnq6 (q := ln0) hw6; simp only [ln0] at d0 d1 d2 d3 d4 d5; have hk6 := (hg6.block k0 (by simp; omega) (by intro e; injection e with e; omega)).trans HN3.out; clear hw6 hg6)
    | ((with_reducible refine store_row (dst := none) 65 (.tmp 2) (.tmp 21) k0 _ #[.int .i64 0, .int .i64 0, .int .i64 0, .int .i64 0, .int .i64 0, .int .i64 0] 65 hk6 ?_ ?_ ?_ ?_ ?_ ?_); rfl; rfl; exact lineInfo; rfl; (simp [Value.oneCell']); intro w7 hw7 hg7 hz8; have HW7 := Lib.hid hw7; have HG7 := Lib.hid hg7; clear hw7 hg7))
  obtain ⟨e0, e1, e2, e3, e4, e5⟩ := lnq6 (q := ln0) HW7.out
  simp only [ln0] at e0 e1 e2 e3 e4 e5
  have hA4 := (HA3.out.grown HG6.out (by have := HA3.out.size; omega) (fun j hj => by injection hj with hj; have := HK0.out; omega)).grown HG7.out (by rw [hz7]; have := HA3.out.size; omega) (fun j hj => by injection hj with hj; have := HK0.out; omega)
  have hbb4 : w7.heap[bb]? = _ := (HG7.out.block bb (by rw [hz7]; simp; omega) (by intro e; injection e with e; have := HK0.out; have := HLT.out; omega)).trans ((HG6.out.block bb (by simp; omega) (by intro e; injection e with e; omega)).trans HB3.out)
  refine bodyPost_ret (v := .tuple #[.agg #[.int .i64 0, .int .i64 0, .int .i64 0, .int .i64 0, .int .i64 0, .int .i64 0], .bool false]) (by simp [results, Try.results66, go_sem, e0, e1, e2, e3, e4, e5]) rfl ⟨rfl, hbb4, grown_of_below hA4 _⟩
set_option maxRecDepth 20000 in
set_option maxHeartbeats 4000000 in
theorem end_some (q : Lnq) (bb k sp : Nat) (a b y : Int) (w : World) (gb : w.heap[bb]? = some (.cells #[.pointer (some ⟨sp, 0, none⟩), .int .i64 a, .int .i64 b, .int .i64 y, .pointer (some ⟨k, 0, none⟩)] 135 (0, 0))) (gk : w.heap[k]? = some (.cells (lnqC q).toArray 65 (0, 0))) :
    Calls Try.prog 66 #[.pointer (some ⟨bb, 0, none⟩)] w (EndPost q true bb sp a b q.b w) := by
  unfold EndPost bldC
  have hA := (Below.refl w.heap.size w).alloc (Nat.le_refl _) (.cells (lnqC ln0).toArray 65)
  have hn := lnqNew w ln0
  have hb := blk_keep gb hA
  have hkk := blk_keep gk hA
  obtain ⟨k0, hk0⟩ : ∃ b, w.heap.size = b := ⟨_, rfl⟩
  obtain ⟨w1, hw1⟩ : ∃ z, w.alloc (.cells #[.int .i64 0, .int .i64 0, .int .i64 0, .int .i64 0, .int .i64 0, .int .i64 0] 65) = z := ⟨_, rfl⟩
  rw [show w.alloc (.cells (lnqC ln0).toArray 65) = w1 from hw1] at hA hn hb hkk
  rw [hk0] at hn
  have hnow := now_some q bb k _ _ _ _ w1 hb hkk
  have HLT := Lib.hid (Array.getElem?_eq_some_iff.1 gb).1
  unfold NowPost at hnow
  have HNOW := Lib.hid hnow
  have HW1 := Lib.hid hw1
  have HK0 := Lib.hid hk0
  have HN := Lib.hid hn
  have HA := Lib.hid hA
  have HB := Lib.hid hb
  clear gb gk hA hn hb hnow hw1 hk0 hkk
  go_enter Try.func66, Try.ntmps66
  go_wp2_with fail
  rw [HW1.out, HK0.out]
  refine HNOW.out.mono ?_
  rintro e w2 ⟨rfl, hb2⟩
  have hN2 := blk_keep HN.out hb2
  have hB2 := blk_keep HB.out hb2
  have hA2 := Below.onto hb2 HA.out
  have hk1 : k0 < w2.heap.size := (Array.getElem?_eq_some_iff.1 hN2).1
  have hb1 : bb < w2.heap.size := (Array.getElem?_eq_some_iff.1 hB2).1
  have hN3 := old_some (o' := (.cells #[.int .i64 0, .int .i64 0, .int .i64 0, .int .i64 0, .int .i64 0, .int .i64 0] 65)) hN2
  have hB3 := old_some (o' := (.cells #[.int .i64 0, .int .i64 0, .int .i64 0, .int .i64 0, .int .i64 0, .int .i64 0] 65)) hB2
  have hA3 := hA2.alloc hA2.size (.cells #[.int .i64 0, .int .i64 0, .int .i64 0, .int .i64 0, .int .i64 0, .int .i64 0] 65)
  have hnw := lnqNew w2 ln0
  have HN3 := Lib.hid hN3
  have HB3 := Lib.hid hB3
  have HA3 := Lib.hid hA3
  have HNW := Lib.hid (show (w2.alloc (.cells #[.int .i64 0, .int .i64 0, .int .i64 0, .int .i64 0, .int .i64 0, .int .i64 0] 65)).heap[w2.heap.size]? = some (.cells (lnqC ln0).toArray 65 (0, 0)) from hnw)
  clear hb2 hN2 hB2 hA2 hN3 hB3 hA3 hnw
  obtain ⟨l, t, r, bt, n, d⟩ := q
  simp only [lnqC, ln0]
  go_wp2_with (first
    | ((with_reducible refine store_row (dst := none) 65 (.tmp 4) (.tmp 9) w2.heap.size _ #[.int .i64 l, .int .i64 t, .int .i64 r, .int .i64 bt, .int .i64 n, .int .i64 d] 65 HNW.out ?_ ?_ ?_ ?_ ?_ ?_); rfl; rfl; exact lineInfo; rfl; (simp [Value.oneCell']); intro w6 hw6 hg6 hz7; have HW6 := Lib.hid hw6; have HG6 := Lib.hid hg6; obtain ⟨d0, d1, d2, d3, d4, d5⟩ := lnq6 (q := ⟨l, t, r, bt, n, d⟩) hw6; simp only at d0 d1 d2 d3 d4 d5; have hb6 := (hg6.block bb (by simp; omega) (by intro e; injection e with e; omega)).trans HB3.out; have hk6 := (hg6.block k0 (by simp; omega) (by intro e; injection e with e; omega)).trans HN3.out; have HK6 := Lib.hid hk6; have HB6 := Lib.hid hb6; obtain ⟨z0, z1, z2, z3, z4⟩ := box5v hb6; have fz3 := frozen_of_row _ bb 3 _ _ hb6; have fz4 := frozen_of_row _ bb 4 _ _ hb6; clear hw6 hg6 hb6 hk6)
    | ((with_reducible refine store_row (dst := none) 65 (.tmp 2) (.tmp 21) k0 _ #[.int .i64 l, .int .i64 t, .int .i64 r, .int .i64 bt, .int .i64 n, .int .i64 d] 65 ((heap_setCell_other _ _ k0 _ (by have := HK0.out; have := HLT.out; simp; omega)).trans ((heap_setCell_other _ _ k0 _ (by have := HK0.out; have := HLT.out; simp; omega)).trans HK6.out)) ?_ ?_ ?_ ?_ ?_ ?_); rfl; rfl; exact lineInfo; rfl; (simp [Value.oneCell']); intro w7 hw7 hg7 hz8; have HW7 := Lib.hid hw7; have HG7 := Lib.hid hg7; clear hw7 hg7))
  obtain ⟨e0, e1, e2, e3, e4, e5⟩ := lnq6 (q := ⟨l, t, r, bt, n, d⟩) HW7.out
  simp only at e0 e1 e2 e3 e4 e5
  have hA4 := (HA3.out.grown HG6.out (by have := HA3.out.size; omega) (fun j hj => by injection hj with hj; have := HK0.out; omega))
  have hS := heap_setCell_same _ bb 4 _ _ (.pointer none) (heap_setCell_same _ bb 3 _ _ (.int .i64 bt) HB6.out)
  have hbb4 : w7.heap[bb]? = _ := (HG7.out.block bb (Array.getElem?_eq_some_iff.1 hS).1 (by intro e; injection e with e; have := HK0.out; have := HLT.out; omega)).trans hS
  refine bodyPost_ret (v := .tuple #[.agg #[.int .i64 l, .int .i64 t, .int .i64 r, .int .i64 bt, .int .i64 n, .int .i64 d], .bool true]) (by simp [results, Try.results66, go_sem, e0, e1, e2, e3, e4, e5]) rfl ⟨rfl, hbb4, ?_⟩
  have hg1 := grown_trans (grown_of_below hA4 _) (grown_setCells bb [.int .i64 bt, .pointer none] 3 w6)
  exact grown_from hg1 HG7.out (fun j hj => by injection hj with hj; have := HK0.out; omega)
/- Le -/
def highQ (q : Lnq) (h : Int) : Int := max (q.b - q.t) h
def nextQ (L : List Fo) (a b : Int) (q : Lnq) (wd h : Int) : Lnq := ⟨(freeS L a b q.t (highQ q h)).1, q.t, (freeS L a b q.t (highQ q h)).2, q.t + highQ q h, q.n + 1, q.d + wd⟩
def fitsQ (L : List Fo) (a b : Int) (q : Lnq) (wd h : Int) : Bool := decide (q.d + wd ≤ (freeS L a b q.t (highQ q h)).2 - (freeS L a b q.t (highQ q h)).1)
structure LnqOk (q : Lnq) : Prop where
  t : -4503599627370496 ≤ q.t ∧ q.t ≤ 2251799813685248
  b : 0 ≤ q.b - q.t ∧ q.b - q.t ≤ 1125899906842624
  n : 0 ≤ q.n ∧ q.n ≤ 1125899906842624
  d : 0 ≤ q.d ∧ q.d ≤ 1125899906842624
def LAddPost (L : List Fo) (a b : Int) (q : Lnq) (wd h : Int) (bb k sp : Nat) (y : Int) (w : World) (e : Ending) (w' : World) : Prop :=
  e = .returned (.bool (fitsQ L a b q wd h)) ∧ w'.heap[k]? = some (.cells (lnqC (if fitsQ L a b q wd h then nextQ L a b q wd h else q)).toArray 65 (0, 0)) ∧ w.grownBy w' (some k)
set_option maxRecDepth 20000 in
set_option maxHeartbeats 4000000 in
theorem ladd_some (L : List Fo) (a b y wd h : Int) (q : Lnq) (bb k : Nat) (base sp : Nat) (w : World) (hs : SpaceIs w base sp L) (gb : w.heap[bb]? = some (.cells #[.pointer (some ⟨sp, 0, none⟩), .int .i64 a, .int .i64 b, .int .i64 y, .pointer (some ⟨k, 0, none⟩)] 135 (0, 0))) (gk : w.heap[k]? = some (.cells (lnqC q).toArray 65 (0, 0)))
    (hok : SpOk L) (hsm : ∀ f ∈ L, smallF f = true) (hq : LnqOk q) (hh : 0 ≤ h ∧ h ≤ 1125899906842624) (hw : 0 ≤ wd ∧ wd ≤ 1125899906842624) (ha : -1125899906842624 ≤ a ∧ a ≤ 1125899906842624) (hb : -1125899906842624 ≤ b ∧ b ≤ 1125899906842624) :
    Calls Try.prog 37 #[.pointer (some ⟨bb, 0, none⟩), .agg #[.int .i64 wd, .int .i64 h]] w (LAddPost L a b q wd h bb k sp y w) := by
  obtain ⟨l, t, r, bt, n, d⟩ := q
  obtain ⟨⟨t1, t2⟩, ⟨b1, b2⟩, ⟨n1, n2⟩, ⟨d1, d2⟩⟩ := hq
  simp only at t1 t2 b1 b2 n1 n2 d1 d2
  obtain ⟨H, hH⟩ : ∃ H, max (bt - t) h = H := ⟨_, rfl⟩
  have hH1 : 0 ≤ H ∧ H ≤ 1125899906842624 := by omega
  have hbx := fun w hw hk => box_any L a b t H bb (.int .i64 y) (.pointer (some ⟨k, 0, none⟩)) base sp w hw hk hok ha hb ⟨t1, t2⟩ (by omega)
  have hed := bnds_edge hsm t H
  unfold LAddPost fitsQ nextQ highQ
  simp only [hH]
  unfold freeS at hbx ⊢
  obtain ⟨⟨p1, p2⟩, hp⟩ : ∃ p, bnds L t H = p := ⟨_, rfl⟩
  rw [hp] at hbx hed ⊢
  simp only at hbx hed ⊢
  unfold far at hed
  obtain ⟨f1, hf1⟩ : ∃ r, max a p1 = r := ⟨_, rfl⟩
  obtain ⟨f2, hf2⟩ : ∃ r, min b p2 = r := ⟨_, rfl⟩
  rw [hf1, hf2] at hbx ⊢
  obtain ⟨ok, hdec⟩ : ∃ o, decide (d + wd ≤ f2 - f1) = o := ⟨_, rfl⟩
  obtain ⟨z, hz⟩ : ∃ z, (lnqC (if decide (d + wd ≤ f2 - f1) = true then ⟨f1, t, f2, t + H, n + 1, d + wd⟩ else ⟨l, t, r, bt, n, d⟩)).toArray = z := ⟨_, rfl⟩
  rw [hz, hdec]
  have HDEC := Lib.hid hdec
  have HZ := Lib.hid hz
  clear hdec hz
  have hrow := fun w => rows_any l t r bt w
  have hlen := fun w => slen_any t bt w (by unfold Mid; omega) (by unfold Mid; omega)
  have hcol := fun w => columns_any f1 t f2 (t + H) w
  have hlen2 := fun w => slen_any f1 f2 w (by unfold Mid; omega) (by unfold Mid; omega)
  obtain ⟨W, hW⟩ : ∃ W, w.alloc (.cells #[.int .i64 wd, .int .i64 h] 76) = W := ⟨_, rfl⟩
  obtain ⟨bz, hbz⟩ : ∃ b, w.heap.size = b := ⟨_, rfl⟩
  have hB : Below w.heap.size w W := by rw [← hW]; exact (Below.refl _ _).alloc (Nat.le_refl _) _
  have gz : W.heap[bz]? = some (.cells #[.int .i64 wd, .int .i64 h] 76 (0, 0)) := by rw [← hW, ← hbz]; exact heap_alloc_new w _
  have gb1 := blk_keep gb hB
  have gk1 := blk_keep gk hB
  have hs1 := hs.below hB (Nat.le_refl _)
  have HS1 : Hid (∀ w', Below W.heap.size W w' → SpaceIs w' base sp L) := Lib.hid fun w' e => hs1.below e (Nat.le_refl _)
  have HGB : Hid (∀ w', Below W.heap.size W w' → w'.heap[bb]? = _) := Lib.hid fun w' e => blk_keep gb1 e
  have HGK : Hid (∀ w', Below W.heap.size W w' → w'.heap[k]? = _) := Lib.hid fun w' e => blk_keep gk1 e
  have HK : Hid (∀ w', Below W.heap.size W w' → w'.cell? ⟨bb, 4, none⟩ = some (.pointer (some ⟨k, 0, none⟩)) ∧ w'.cell? ⟨k, 0, none⟩ = some (.int .i64 l) ∧ w'.cell? ⟨k, 1, none⟩ = some (.int .i64 t) ∧ w'.cell? ⟨k, 2, none⟩ = some (.int .i64 r) ∧ w'.cell? ⟨k, 3, none⟩ = some (.int .i64 bt) ∧ w'.cell? ⟨k, 4, none⟩ = some (.int .i64 n) ∧ w'.cell? ⟨k, 5, none⟩ = some (.int .i64 d) ∧ w'.cell? ⟨bz, 0, none⟩ = some (.int .i64 wd) ∧ w'.cell? ⟨bz, 1, none⟩ = some (.int .i64 h)) := Lib.hid fun w' e =>
    have h1 := lnq6 (q := ⟨l, t, r, bt, n, d⟩) (blk_keep gk1 e)
    ⟨(box5v (blk_keep gb1 e)).2.2.2.2, h1.1, h1.2.1, h1.2.2.1, h1.2.2.2.1, h1.2.2.2.2.1, h1.2.2.2.2.2, cell_of_row w' bz 0 _ _ (0, 0) (blk_keep gz e), cell_of_row w' bz 1 _ _ (0, 0) (blk_keep gz e)⟩
  have q4 : (w.alloc (.cells #[.int .i64 wd, .int .i64 h] 76)).cell? ⟨bb, 4, none⟩ = some (.pointer (some ⟨k, 0, none⟩)) := by rw [hW]; exact (HK.out W (Below.refl _ _)).1
  have hw1 : IntKind.i64.wrap (n + 1) = n + 1 := by rw [IntKind.wrap_i64]; omega
  have hw2 : IntKind.i64.wrap (d + wd) = d + wd := by rw [IntKind.wrap_i64]; omega
  have HBX := Lib.hid hbx
  have HROW := Lib.hid hrow
  have HLEN := Lib.hid hlen
  have HCOL := Lib.hid hcol
  have HLEN2 := Lib.hid hlen2
  have HW := Lib.hid hW
  have HBZ := Lib.hid hbz
  have HB := Lib.hid hB
  clear hbx hrow hlen hcol hlen2 hW hbz hB gz gb1 gk1 gb gk hs hs1 hok hsm hp hf1 hf2
  go_enter Try.func37, Try.ntmps37
  go_wp2_with fail
  rw [HW.out, HBZ.out]
  (try simp only [Act.put, List.getElem_toArray, List.getElem_cons_zero, List.getElem_cons_succ, List.setIfInBounds_toArray, List.set_cons_zero, List.set_cons_succ])
  clear q4
  (refine wp_region_laid_l (by kernel_rfl) [] 13 (by kernel_rfl) (by kernel_rfl) ?_; (repeat (first | (refine wpLex_laid (by rfl) ?_) | (refine wpLex_no (by rfl) (by rfl) ?_; go_simp) | (refine wpLex_val (by rfl) (by rfl) _ (by intro wq hq; have hSw := HK.out wq hq; (try dsimp only at hSw); go_simp; rfl) ?_; go_simp) | (refine wpLex_call (by rfl) (by rfl) _ _ (by intro wq hq; have hSw := HK.out wq hq; (try dsimp only at hSw); go_simp; exact ⟨rfl, rfl⟩) _ (by intro wq hq; have hSw := HK.out wq hq; (try dsimp only at hSw); first | (go_at_call 70; exact (HROW.out wq)) | (go_at_call 35; exact (HLEN.out wq))) ?_; go_simp))); refine wpLex_zero ?_)
  refine lend_none fun w1 hb1 => ?_
  have hH' : (if bt - t < h then h else bt - t) = H := by rw [← hH]; split <;> omega
  rw [hH']
  have HB1 := Lib.hid (show Below W.heap.size W w1 from hb1)
  have HK1 : Hid (∀ w', Below w1.heap.size w1 w' → _) := Lib.hid fun w' e => HK.out w' (below_onto HB1.out e)
  clear hH' hb1
  go_wp2_with fail
  (refine wp_region_laid_l (by kernel_rfl) [⟨false, 6, 65, 56, none⟩] 32 (by kernel_rfl) (by kernel_rfl) ?_; (repeat (first | (refine wpLex_laid (by rfl) ?_) | (refine wpLex_no (by rfl) (by rfl) ?_; go_simp) | (refine wpLex_val (by rfl) (by rfl) _ (by intro wq hq; have hSw := HK1.out wq hq; (try dsimp only at hSw); go_simp; rfl) ?_; go_simp) | (refine wpLex_call (by rfl) (by rfl) _ _ (by intro wq hq; have hSw := HK1.out wq hq; (try dsimp only at hSw); go_simp; exact ⟨rfl, rfl⟩) _ (by intro wq hq; have hSw := HK1.out wq hq; (try dsimp only at hSw); first | (go_at_call 71; exact (HBX.out wq (HS1.out wq (below_onto HB1.out hq)) (HGB.out wq (below_onto HB1.out hq))))) ?_; go_simp))); refine wpLex_zero ?_)
  refine lend_one (.agg #[.int .i64 f1, .int .i64 t, .int .i64 f2, .int .i64 (t + H), .int .i64 (n + 1), .int .i64 (d + wd)]) rfl rfl (Fits.row lineInfo (by simp [Value.oneCell'])) (by unfold Zeros; kernel_rfl) fun k6 w2 hn6 hb2 g6 => ?_
  refine wpList_done ?_
  simp only [Laid.val, Act.put, List.setIfInBounds_toArray, List.set_cons_zero, List.set_cons_succ]
  have HB2 := Lib.hid (below_onto HB1.out hb2)
  have G6 := Lib.hid (show w2.heap[k6]? = some (.cells (lnqC ⟨f1, t, f2, t + H, n + 1, d + wd⟩).toArray 65 (0, 0)) from g6)
  have HK2 : Hid (∀ w', Below w2.heap.size w2 w' → w'.cell? ⟨k6, 0, none⟩ = some (.int .i64 f1) ∧ w'.cell? ⟨k6, 1, none⟩ = some (.int .i64 t) ∧ w'.cell? ⟨k6, 2, none⟩ = some (.int .i64 f2) ∧ w'.cell? ⟨k6, 3, none⟩ = some (.int .i64 (t + H)) ∧ w'.cell? ⟨k6, 4, none⟩ = some (.int .i64 (n + 1)) ∧ w'.cell? ⟨k6, 5, none⟩ = some (.int .i64 (d + wd)) ∧ w'.cell? ⟨bb, 4, none⟩ = some (.pointer (some ⟨k, 0, none⟩))) := Lib.hid fun w' e =>
    have h1 := lnq6 (q := ⟨f1, t, f2, t + H, n + 1, d + wd⟩) (blk_keep G6.out e)
    ⟨h1.1, h1.2.1, h1.2.2.1, h1.2.2.2.1, h1.2.2.2.2.1, h1.2.2.2.2.2, (HK.out w' (below_onto HB2.out e)).1⟩
  clear hb2 g6 HK1
  go_wp2_with fail
  (refine wp_region_laid_l (by kernel_rfl) [] 7 (by kernel_rfl) (by kernel_rfl) ?_; (repeat (first | (refine wpLex_laid (by rfl) ?_) | (refine wpLex_no (by rfl) (by rfl) ?_; go_simp) | (refine wpLex_val (by rfl) (by rfl) _ (by intro wq hq; have hSw := HK2.out wq hq; (try dsimp only at hSw); go_simp; rfl) ?_; go_simp) | (refine wpLex_call (by rfl) (by rfl) _ _ (by intro wq hq; have hSw := HK2.out wq hq; (try dsimp only at hSw); go_simp; exact ⟨rfl, rfl⟩) _ (by intro wq hq; have hSw := HK2.out wq hq; (try dsimp only at hSw); first | (go_at_call 72; exact (HCOL.out wq)) | (go_at_call 35; exact (HLEN2.out wq))) ?_; go_simp))); refine wpLex_zero ?_)
  refine lend_none fun w3 hb3 => ?_
  have HB3 := Lib.hid (below_onto HB2.out hb3)
  have HK3 : Hid (∀ w', Below w3.heap.size w3 w' → _) := Lib.hid fun w' e => HK2.out w' (below_onto hb3 e)
  clear hb3 HK2
  go_wp2_with fail
  · rename_i hfit
    have e1 : decide (d + wd ≤ f2 - f1) = false := decide_eq_false (by omega)
    have e2 := HZ.out
    rw [e1, if_neg (by decide)] at e2
    obtain rfl : ok = false := by rw [← HDEC.out, e1]
    subst e2
    go_ret
    exact ⟨rfl, HGK.out w3 HB3.out, grown_of_below (below_onto HB.out HB3.out) _⟩
  · have hfit : d + wd ≤ f2 - f1 := by assumption
    have e1 : decide (d + wd ≤ f2 - f1) = true := decide_eq_true hfit
    have e2 := HZ.out
    rw [e1, if_pos rfl] at e2
    obtain rfl : ok = true := by rw [← HDEC.out, e1]
    subst e2
    (refine wp_region_laid_l (by kernel_rfl) [] 6 (by kernel_rfl) (by kernel_rfl) ?_; (repeat (first | (refine wpLex_laid (by rfl) ?_) | (refine wpLex_no (by rfl) (by rfl) ?_; go_simp) | (refine wpLex_val (by rfl) (by rfl) _ (by intro wq hq; have hSw := HK3.out wq hq; (try dsimp only at hSw); go_simp; rfl) ?_; go_simp))); refine wpLex_zero ?_)
    refine lend_tail fun w4 hb4 => ?_
    have HB4 := Lib.hid (below_onto HB3.out hb4)
    have HGK4 := Lib.hid (HGK.out w4 HB4.out)
    have hkl := (Array.getElem?_eq_some_iff.1 (HGK.out w4 HB4.out)).1
    clear HK3 hb4
    go_wp2_with (first
      | ((with_reducible refine store_row (dst := none) 65 (.tmp 69) (.tmp 68) k _ #[.int .i64 f1, .int .i64 t, .int .i64 f2, .int .i64 (t + H), .int .i64 (n + 1), .int .i64 (d + wd)] 65 HGK4.out ?_ ?_ ?_ ?_ ?_ ?_); rfl; rfl; exact lineInfo; rfl; (simp [Value.oneCell']); intro w7 hw7 hg7 hz8; have HW7 := Lib.hid hw7; have HG7 := Lib.hid hg7; clear hw7 hg7))
    go_ret
    exact ⟨rfl, HW7.out, grown_trans (grown_of_below (below_onto HB.out HB4.out) _) HG7.out⟩
/- Lf -/
structure LnS where
  y : Int
  now : Option Lnq
  out : List Lnq
def lnAdd (L : List Fo) (a b : Int) (s : LnS) (z : Int × Int) : LnS := match s.now with
  | none => ⟨s.y, some (begQ L a b s.y z.1 z.2), s.out⟩
  | some q => if fitsQ L a b q z.1 z.2 = true then ⟨s.y, some (nextQ L a b q z.1 z.2), s.out⟩ else ⟨q.b, some (begQ L a b q.b z.1 z.2), s.out ++ [q]⟩
def lnEnd (s : LnS) : LnS := match s.now with
  | none => s
  | some q => ⟨q.b, none, s.out ++ [q]⟩
def lnAll (L : List Fo) (a b y : Int) (l : List (Int × Int)) : List Lnq := (lnEnd (l.foldl (lnAdd L a b) ⟨y, none, []⟩)).out
def szOk (z : Int × Int) : Prop := (0 ≤ z.1 ∧ z.1 ≤ 2147483648) ∧ 0 ≤ z.2 ∧ z.2 ≤ 2147483648
structure LnI (M : Int) (k : Nat) (s : LnS) : Prop where
  y : -4503599627370496 ≤ s.y ∧ s.y ≤ M + k * 2147483648
  q : ∀ q, s.now = some q → (-4503599627370496 ≤ q.t ∧ q.t + 2147483648 ≤ M + k * 2147483648) ∧ (0 ≤ q.b - q.t ∧ q.b - q.t ≤ 2147483648) ∧ (0 ≤ q.n ∧ q.n ≤ k) ∧ (0 ≤ q.d ∧ q.d ≤ k * 2147483648)
  len : s.out.length ≤ k
theorem topQ_le {L : List Fo} {M a b y wd h : Int} (hM : ∀ s ∈ full (shelves L), s.t ≤ M) : topQ L a b y wd h ≤ max y M := by
  unfold topQ
  rcases firstL_mem (soLn L a b wd h) (rest (full (shelves L)) y) y with e | ⟨s, hs, e⟩
  · rw [e]; omega
  · rw [e]; have := hM s (List.mem_of_mem_drop hs); omega
theorem begQ_ok {L : List Fo} {M a b y : Int} {k : Nat} {z : Int × Int} (hsm : ∀ f ∈ L, smallF f = true) (hM : ∀ s ∈ full (shelves L), s.t ≤ M) (hz : szOk z) (hy : -4503599627370496 ≤ y ∧ y ≤ M + k * 2147483648) (hb : M + k * 2147483648 ≤ 2251799813685248) :
    (-4503599627370496 ≤ (begQ L a b y z.1 z.2).t ∧ (begQ L a b y z.1 z.2).t + 2147483648 ≤ M + (k + 1 : Nat) * 2147483648) ∧ (0 ≤ (begQ L a b y z.1 z.2).b - (begQ L a b y z.1 z.2).t ∧ (begQ L a b y z.1 z.2).b - (begQ L a b y z.1 z.2).t ≤ 2147483648) ∧ (0 ≤ (begQ L a b y z.1 z.2).n ∧ (begQ L a b y z.1 z.2).n ≤ (k + 1 : Nat)) ∧ (0 ≤ (begQ L a b y z.1 z.2).d ∧ (begQ L a b y z.1 z.2).d ≤ (k + 1 : Nat) * 2147483648) := by
  have h1 := topQ_le (a := a) (b := b) (y := y) (wd := z.1) (h := z.2) hM
  have h2 := topQ_in (a := a) (b := b) (wd := z.1) (ht := z.2) hsm (y := y) ⟨hy.1, by omega⟩
  obtain ⟨⟨a1, a2⟩, a3, a4⟩ := hz
  unfold begQ
  simp only
  refine ⟨⟨h2.1, ?_⟩, ⟨by omega, by omega⟩, ⟨by omega, by omega⟩, a1, ?_⟩ <;> (push_cast; omega)
theorem lnAdd_inv {L : List Fo} {M a b : Int} {k : Nat} {s : LnS} {z : Int × Int} (hsm : ∀ f ∈ L, smallF f = true) (hM : ∀ s ∈ full (shelves L), s.t ≤ M) (hI : LnI M k s) (hz : szOk z) (hb : M + (k + 1 : Nat) * 2147483648 ≤ 2251799813685248) : LnI M (k + 1) (lnAdd L a b s z) := by
  obtain ⟨y, now, out⟩ := s
  obtain ⟨hy, hq, hl⟩ := hI
  simp only at hy hq hl
  cases now with
  | none =>
    refine ⟨⟨hy.1, by show y ≤ _; omega⟩, fun q e => ?_, by show out.length ≤ _; omega⟩
    simp only [lnAdd, Option.some.injEq] at e
    subst e
    exact begQ_ok hsm hM hz hy (by omega)
  | some q =>
    have h0 := hq q rfl
    unfold lnAdd
    simp only
    split
    · refine ⟨⟨hy.1, by show y ≤ _; omega⟩, fun q2 e => ?_, by show out.length ≤ _; omega⟩
      simp only [Option.some.injEq] at e
      subst e
      obtain ⟨⟨a1, a2⟩, a3, a4⟩ := hz
      unfold nextQ highQ
      simp only
      exact ⟨⟨by omega, by omega⟩, ⟨by omega, by omega⟩, ⟨by omega, by omega⟩, by omega, by omega⟩
    · refine ⟨⟨by show _ ≤ q.b; omega, by show q.b ≤ _; omega⟩, fun q2 e => ?_, by simp; omega⟩
      simp only [Option.some.injEq] at e
      subst e
      exact begQ_ok hsm hM hz ⟨by omega, by omega⟩ (by omega)
theorem ln_foldl {L : List Fo} {M a b : Int} (hsm : ∀ f ∈ L, smallF f = true) (hM : ∀ s ∈ full (shelves L), s.t ≤ M) (l : List (Int × Int)) : ∀ (k n : Nat) (s : LnS), (∀ z ∈ l, szOk z) → LnI M k s → n = k + l.length → M + n * 2147483648 ≤ 2251799813685248 → LnI M n (l.foldl (lnAdd L a b) s) := by
  induction l with
  | nil =>
    intro k n s _ hI hn _
    have : n = k := by simpa using hn
    subst this
    exact hI
  | cons z l ih =>
    intro k n s hz hI hn hb
    have hn' : n = k + 1 + l.length := by simp at hn; omega
    rw [List.foldl_cons]
    exact ih (k + 1) n (lnAdd L a b s z) (fun x hx => hz x (List.mem_cons_of_mem _ hx)) (lnAdd_inv hsm hM hI (hz z (List.mem_cons_self ..)) (by omega)) hn' hb
/- its memory -/
def NowIs (w : World) (n0 : Nat) (nw : Value) (av : List (Option Nat)) : Option Lnq → Prop
  | none => nw = .pointer none
  | some q => ∃ k, nw = .pointer (some ⟨k, 0, none⟩) ∧ n0 ≤ k ∧ (some k) ∉ av ∧ w.heap[k]? = some (.cells (lnqC q).toArray 65 (0, 0))
structure LnW (n0 : Nat) (w0 w : World) (bb pb po sp : Nat) (a b : Int) (X : Nat × Obj) (s : LnS) : Prop where
  below : Below n0 w0 w
  n : n0 ≤ bb ∧ n0 ≤ pb ∧ n0 ≤ po
  ne : bb ≠ pb ∧ bb ≠ po ∧ pb ≠ po
  x : w.heap[X.1]? = some X.2 ∧ n0 ≤ X.1 ∧ X.1 ≠ bb ∧ X.1 ≠ pb ∧ X.1 ≠ po
  gp : w.heap[pb]? = some (.cells #[.pointer (some ⟨bb, 0, none⟩)] 73 (0, 0))
  go : ∃ v nw, w.heap[po]? = some (.cells #[v] 58 (0, 0)) ∧ OwnSl lnqC 6 65 w n0 v s.out ∧ (v.ownBlock ≠ some bb ∧ v.ownBlock ≠ some pb ∧ v.ownBlock ≠ some po ∧ v.ownBlock ≠ some X.1) ∧ w.heap[bb]? = some (.cells (bldC sp a b s.y nw) 135 (0, 0)) ∧ NowIs w n0 nw [some bb, some pb, some po, v.ownBlock, some X.1] s.now
theorem lnqC_len (q : Lnq) : (lnqC q).length = 6 := rfl
theorem lnqC_one (q : Lnq) : ∀ u ∈ lnqC q, u.oneCell' = true := by simp [lnqC, Value.oneCell']
theorem lnElem : Elem Try.prog 58 65 6 48 := ⟨Try.underlying58, by kernel_rfl, by decide, by decide⟩
theorem NowIs.keep {w w' : World} {n0 : Nat} {nw : Value} {av av' : List (Option Nat)} {o : Option Lnq} (h : NowIs w n0 nw av o) (hb : ∀ k q, w.heap[k]? = some (.cells (lnqC q).toArray 65 (0, 0)) → some k ∉ av → w'.heap[k]? = w.heap[k]?) (ha : ∀ k q, w.heap[k]? = some (.cells (lnqC q).toArray 65 (0, 0)) → some k ∉ av → some k ∉ av') : NowIs w' n0 nw av' o := by
  cases o with
  | none => exact h
  | some q =>
    obtain ⟨k, h1, h2, h3, h4⟩ := h
    exact ⟨k, h1, h2, ha k q h4 h3, (hb k q h4 h3).trans h4⟩
theorem LnW.below' {X : Nat × Obj} {n0 bb pb po sp : Nat} {w0 w w' : World} {a b : Int} {s : LnS} (h : LnW n0 w0 w bb pb po sp a b X s) (hb : Below w.heap.size w w') (hn : n0 ≤ w.heap.size) : LnW n0 w0 w' bb pb po sp a b X s := by
  obtain ⟨h1, h2, h3, hx, h4, v, nw, h5, h6, h7, h8, h9⟩ := h
  exact ⟨h1.trans (hb.mono hn), h2, h3, ⟨blk_keep hx.1 hb, hx.2⟩, blk_keep h4 hb, v, nw, blk_keep h5 hb, h6.below hb, h7, blk_keep h8 hb, h9.keep (fun k q hk _ => (blk_keep hk hb).trans hk.symm) (fun _ _ _ h => h)⟩
theorem lt_of {w : World} {k : Nat} {o : Obj} (h : w.heap[k]? = some o) : k < w.heap.size := (Array.getElem?_eq_some_iff.1 h).1
theorem LnW.begun {X : Nat × Obj} {n0 bb pb po sp : Nat} {w0 w w' : World} {L : List Fo} {a b y wd h : Int} {out : List Lnq} {e : Ending} (hW : LnW n0 w0 w bb pb po sp a b X ⟨y, none, out⟩) (hn : n0 ≤ w.heap.size) (hp : LBegPost L a b y wd h bb sp w e w') : LnW n0 w0 w' bb pb po sp a b X ⟨y, some (begQ L a b y wd h), out⟩ := by
  obtain ⟨h1, h2, h3, hx, h4, v, nw, h5, h6, h7, h8, h9⟩ := hW
  obtain ⟨_, k, p1, p2, p3, hg⟩ := hp
  have b4 := lt_of h4
  have b5 := lt_of h5
  have b8 := lt_of h8
  have bx := lt_of hx.1
  obtain ⟨x1, x2, x3, x4, x5⟩ := hx
  refine ⟨h1.grown hg hn (fun j hj => by injection hj with hj; omega), h2, h3, ⟨(hg.block X.1 bx (by intro e; injection e with e; omega)).trans x1, x2, x3, x4, x5⟩, (hg.block pb b4 (by intro e; injection e with e; omega)).trans h4, v, _, (hg.block po b5 (by intro e; injection e with e; omega)).trans h5, h6.kept hg (.inr h7.1), h7, p3, k, rfl, by omega, ?_, p2⟩
  intro hm
  simp only [List.mem_cons, Option.some.injEq, List.not_mem_nil, or_false] at hm
  rcases hm with hm | hm | hm | hm | hm
  · omega
  · omega
  · omega
  · have := h6.lt hm.symm
    omega
  · omega
theorem LnW.now {X : Nat × Obj} {n0 bb pb po sp : Nat} {w0 w : World} {a b y : Int} {q : Lnq} {out : List Lnq} (hW : LnW n0 w0 w bb pb po sp a b X ⟨y, some q, out⟩) : ∃ k, w.heap[bb]? = some (.cells (bldC sp a b y (.pointer (some ⟨k, 0, none⟩))) 135 (0, 0)) ∧ w.heap[k]? = some (.cells (lnqC q).toArray 65 (0, 0)) := by
  obtain ⟨h1, h2, h3, hx, h4, v, nw, h5, h6, h7, h8, k, rfl, p1, p2, p3⟩ := hW
  exact ⟨k, h8, p3⟩
theorem LnW.added {X : Nat × Obj} {n0 bb pb po sp k : Nat} {w0 w w' : World} {a b y : Int} {q q2 : Lnq} {out : List Lnq} (hW : LnW n0 w0 w bb pb po sp a b X ⟨y, some q, out⟩) (hn : n0 ≤ w.heap.size)
    (hk : w.heap[bb]? = some (.cells (bldC sp a b y (.pointer (some ⟨k, 0, none⟩))) 135 (0, 0))) (hp : w'.heap[k]? = some (.cells (lnqC q2).toArray 65 (0, 0))) (hg : w.grownBy w' (some k)) : LnW n0 w0 w' bb pb po sp a b X ⟨y, some q2, out⟩ := by
  obtain ⟨h1, h2, h3, hx, h4, v, nw, h5, h6, h7, h8, k', rfl, p1, p2, p3⟩ := hW
  obtain rfl : k = k' := by
    rw [hk] at h8
    simp [bldC] at h8
    exact h8
  have b4 := lt_of h4
  have b5 := lt_of h5
  have b8 := lt_of h8
  have bx := lt_of hx.1
  obtain ⟨x1, x2, x3, x4, x5⟩ := hx
  simp only [List.mem_cons, Option.some.injEq, List.not_mem_nil, or_false, not_or] at p2
  obtain ⟨n1, n2, n3, n4, n5⟩ := p2
  exact ⟨h1.grown hg hn (fun j hj => by injection hj with hj; omega), h2, h3, ⟨(hg.block X.1 bx (by intro e; injection e with e; omega)).trans x1, x2, x3, x4, x5⟩, (hg.block pb b4 (by intro e; injection e with e; omega)).trans h4, v, _, (hg.block po b5 (by intro e; injection e with e; omega)).trans h5, h6.kept hg (.inr (Ne.symm n4)), h7, (hg.block bb b8 (by intro e; injection e with e; omega)).trans h8, k, rfl, p1, by simp [n1, n2, n3, n4, n5], hp⟩
theorem LnW.ended {X : Nat × Obj} {n0 bb pb po sp : Nat} {w0 w w' : World} {a b y : Int} {q : Lnq} {out : List Lnq} {e : Ending} (hW : LnW n0 w0 w bb pb po sp a b X ⟨y, some q, out⟩) (hn : n0 ≤ w.heap.size) (hp : EndPost q true bb sp a b q.b w e w') : LnW n0 w0 w' bb pb po sp a b X ⟨q.b, none, out⟩ := by
  obtain ⟨h1, h2, h3, hx, h4, v, nw, h5, h6, h7, h8, h9⟩ := hW
  obtain ⟨_, p3, hg⟩ := hp
  have b4 := lt_of h4
  have b5 := lt_of h5
  have b8 := lt_of h8
  have bx := lt_of hx.1
  obtain ⟨x1, x2, x3, x4, x5⟩ := hx
  exact ⟨h1.grown hg hn (fun j hj => by injection hj with hj; omega), h2, h3, ⟨(hg.block X.1 bx (by intro e; injection e with e; omega)).trans x1, x2, x3, x4, x5⟩, (hg.block pb b4 (by intro e; injection e with e; omega)).trans h4, v, _, (hg.block po b5 (by intro e; injection e with e; omega)).trans h5, h6.kept hg (.inr h7.1), h7, p3, rfl⟩
theorem LnW.same {X : Nat × Obj} {n0 bb pb po sp : Nat} {w0 w w' : World} {a b y : Int} {out : List Lnq} {e : Ending} (hW : LnW n0 w0 w bb pb po sp a b X ⟨y, none, out⟩) (hn : n0 ≤ w.heap.size) (hp : EndPost ln0 false bb sp a b y w e w') : LnW n0 w0 w' bb pb po sp a b X ⟨y, none, out⟩ := by
  obtain ⟨h1, h2, h3, hx, h4, v, nw, h5, h6, h7, h8, h9⟩ := hW
  obtain ⟨_, p3, hg⟩ := hp
  have b4 := lt_of h4
  have b5 := lt_of h5
  have b8 := lt_of h8
  have bx := lt_of hx.1
  obtain ⟨x1, x2, x3, x4, x5⟩ := hx
  exact ⟨h1.grown hg hn (fun j hj => by injection hj with hj; omega), h2, h3, ⟨(hg.block X.1 bx (by intro e; injection e with e; omega)).trans x1, x2, x3, x4, x5⟩, (hg.block pb b4 (by intro e; injection e with e; omega)).trans h4, v, _, (hg.block po b5 (by intro e; injection e with e; omega)).trans h5, h6.kept hg (.inr h7.1), h7, p3, rfl⟩
/-- One line more is laid into the slice. -/
theorem LnW.more {X : Nat × Obj} {n0 bb pb po sp : Nat} {w0 w w' : World} {a b y : Int} {out : List Lnq} {q : Lnq} {v v' : Value} (hW : LnW n0 w0 w bb pb po sp a b X ⟨y, none, out⟩) (hn : n0 ≤ w.heap.size) (hv : w.heap[po]? = some (.cells #[v] 58 (0, 0)))
    (ho : OwnSl lnqC 6 65 w' n0 v' (out ++ [q])) (hg : w.grownBy w' v.ownBlock) (hw : v'.ownBlock = v.ownBlock ∨ v'.ownBlock = some w.heap.size) : LnW n0 w0 (w'.setCell ⟨po, 0, none⟩ v') bb pb po sp a b X ⟨y, none, out ++ [q]⟩ := by
  obtain ⟨h1, h2, h3, hx, h4, v2, nw, h5, h6, h7, h8, h9⟩ := hW
  obtain rfl : v = v2 := by
    rw [hv] at h5
    simp at h5
    exact h5
  have b4 := lt_of h4
  have b5 := lt_of h5
  have b8 := lt_of h8
  have bx := lt_of hx.1
  obtain ⟨x1, x2, x3, x4, x5⟩ := hx
  have g4 := (hg.block pb b4 (Ne.symm h7.2.1)).trans h4
  have gx := (hg.block X.1 bx (Ne.symm h7.2.2.2)).trans x1
  have g5 := (hg.block po b5 (Ne.symm h7.2.2.1)).trans h5
  have g8 := (hg.block bb b8 (Ne.symm h7.1)).trans h8
  have hs : w'.grownBy (w'.setCell ⟨po, 0, none⟩ v') (some po) := grown_setCells po [v'] 0 w'
  have hn' : n0 ≤ w'.heap.size := Nat.le_trans hn hg.size
  have hnv : v'.ownBlock ≠ some bb ∧ v'.ownBlock ≠ some pb ∧ v'.ownBlock ≠ some po ∧ v'.ownBlock ≠ some X.1 := by
    rcases hw with e | e
    · rw [e]; exact h7
    · rw [e]
      refine ⟨?_, ?_, ?_, ?_⟩ <;> (intro e; injection e with e; omega)
  refine ⟨(h1.grown hg hn (fun j hj => h6.from_ hj)).grown hs hn' (fun j hj => by injection hj with hj; omega), h2, h3, ⟨(hs.block X.1 (lt_of gx) (by intro e; injection e with e; omega)).trans gx, x2, x3, x4, x5⟩, (hs.block pb (lt_of g4) (by intro e; injection e with e; omega)).trans g4, v', nw, heap_setCell_same w' po 0 _ _ v' g5, ho.kept hs (.inr hnv.2.2.1), hnv, (hs.block bb (lt_of g8) (by intro e; injection e with e; omega)).trans g8, h9⟩
/-- Another block is watched. -/
theorem LnW.watch {X : Nat × Obj} {n0 bb pb po sp : Nat} {w0 w : World} {a b : Int} {s : LnS} (hW : LnW n0 w0 w bb pb po sp a b X s) (hn : n0 ≤ w.heap.size) (o : Obj) : LnW n0 w0 (w.alloc o) bb pb po sp a b (w.heap.size, o) s := by
  obtain ⟨h1, h2, h3, hx, h4, v, nw, h5, h6, h7, h8, h9⟩ := hW.below' ((Below.refl w.heap.size w).alloc (Nat.le_refl _) o) hn
  obtain ⟨_, _, _, _, k4, v', nw', k5, k6, _, k8, k9⟩ := hW
  have b4 := lt_of k4
  have b5 := lt_of k5
  have b8 := lt_of k8
  obtain ⟨rfl, rfl⟩ : v = v' ∧ nw = nw' := by
    have e1 := (heap_alloc_old w o b5).symm.trans h5
    have e2 := (heap_alloc_old w o b8).symm.trans h8
    rw [k5] at e1
    rw [k8] at e2
    simp [bldC] at e1 e2
    exact ⟨e1.symm, e2.symm⟩
  have hlt : ∀ j, v.ownBlock = some j → j < w.heap.size := fun j hj => k6.lt hj
  refine ⟨h1, h2, h3, ⟨heap_alloc_new w o, hn, by show w.heap.size ≠ bb; omega, by show w.heap.size ≠ pb; omega, by show w.heap.size ≠ po; omega⟩, h4, v, nw, h5, h6, ⟨h7.1, h7.2.1, h7.2.2.1, fun e => by have := hlt _ e; simp at this⟩, h8, ?_⟩
  cases s with
  | mk y now out =>
    cases now with
    | none => exact h9
    | some q =>
      obtain ⟨k, e1, p1, p2, p3⟩ := h9
      obtain ⟨k', e1', p1', p2', p3'⟩ := k9
      obtain rfl : k = k' := by
        rw [e1] at e1'
        simp at e1'
        exact e1'
      have hk := lt_of p3'
      refine ⟨k, e1, p1, ?_, p3⟩
      intro hm
      simp only [List.mem_cons, Option.some.injEq, List.not_mem_nil, or_false, not_or] at hm p2
      rcases hm with hm | hm | hm | hm | hm
      · exact p2.1 hm
      · exact p2.2.1 hm
      · exact p2.2.2.1 hm
      · exact p2.2.2.2.1 hm
      · omega
/- Lh -/
set_option maxRecDepth 20000 in
set_option maxHeartbeats 4000000 in
theorem alle_none (X : Nat × Obj) (n0 bb pb po sp : Nat) (w0 w : World) (a b y : Int) (out : List Lnq) (hW : LnW n0 w0 w bb pb po sp a b X ⟨y, none, out⟩) (hn : n0 ≤ w.heap.size) :
    Calls Try.prog 65 #[.pointer (some ⟨pb, 0, none⟩), .pointer (some ⟨po, 0, none⟩)] w fun e w' => e = .returned (.tuple #[]) ∧ LnW n0 w0 w' bb pb po sp a b X ⟨y, none, out⟩ ∧ w.heap.size ≤ w'.heap.size := by
  have hgb : w.heap[bb]? = some (.cells (bldC sp a b y (.pointer none)) 135 (0, 0)) := by
    obtain ⟨_, _, _, _, _, v, nw, _, _, _, h8, h9⟩ := hW
    have h9 : nw = .pointer none := h9
    rw [h9] at h8
    exact h8
  have q0 := cell_of_row w pb 0 _ _ (0, 0) hW.gp
  simp only [List.getElem?_toArray, List.getElem?_cons_zero] at q0
  have HE := Lib.hid (end_none bb sp a b y w hgb)
  have HW := Lib.hid hW
  have HN := Lib.hid hn
  clear hgb hW hn
  go_enter Try.func65, Try.ntmps65
  go_wp2_with fail
  refine HE.out.mono ?_
  intro e w2 hp
  have hz : w.heap.size ≤ w2.heap.size := hp.2.2.size
  have HW2 := Lib.hid (HW.out.same HN.out hp)
  obtain ⟨rfl, _⟩ := hp
  go_wp2_with (first
    | ((with_reducible refine store_new (dst := none) 65 (.tmp 2) (.tmp 7) w2 _ #[.int .i64 0, .int .i64 0, .int .i64 0, .int .i64 0, .int .i64 0, .int .i64 0] 65 rfl ?_ ?_ ?_ ?_ ?_ ?_); rfl; rfl; exact lineInfo; rfl; (simp [Value.oneCell'])))
  refine bodyPost_end (results_none rfl _ _ _) rfl ?_
  exact ⟨rfl, HW2.out.below' ((Below.refl _ _).alloc (Nat.le_refl _) _) (by have := HN.out; omega), by simp; omega⟩
set_option maxRecDepth 20000 in
set_option maxHeartbeats 4000000 in
theorem alle_some (X : Nat × Obj) (n0 bb pb po sp : Nat) (w0 w : World) (a b y : Int) (q : Lnq) (out : List Lnq) (hW : LnW n0 w0 w bb pb po sp a b X ⟨y, some q, out⟩) (hn : n0 ≤ w.heap.size) (hl : out.length ≤ 1000000) :
    Calls Try.prog 65 #[.pointer (some ⟨pb, 0, none⟩), .pointer (some ⟨po, 0, none⟩)] w fun e w' => e = .returned (.tuple #[]) ∧ LnW n0 w0 w' bb pb po sp a b X ⟨q.b, none, out ++ [q]⟩ ∧ w.heap.size ≤ w'.heap.size := by
  obtain ⟨k, hgb, hgk⟩ := hW.now
  have q0 := cell_of_row w pb 0 _ _ (0, 0) hW.gp
  simp only [List.getElem?_toArray, List.getElem?_cons_zero] at q0
  have HE := Lib.hid (end_some q bb k sp a b y w hgb hgk)
  have HW := Lib.hid hW
  have HN := Lib.hid hn
  clear hgb hW hn hgk
  go_enter Try.func65, Try.ntmps65
  go_wp2_with fail
  refine HE.out.mono ?_
  intro e w2 hp
  have hz : w.heap.size ≤ w2.heap.size := hp.2.2.size
  have HW2 := Lib.hid (HW.out.ended HN.out hp)
  obtain ⟨rfl, _⟩ := hp
  obtain ⟨v, nw, hpo, hown, hne, _⟩ := HW2.out.go
  obtain ⟨ad, cap, rfl, hcap⟩ := hown.form
  have HNE := Lib.hid hne.2.2.1
  clear hne hcap
  have c1 : w2.cell? ⟨po, 0, none⟩ = some (.slice ad out.length cap) := cell_of_row w2 po 0 _ _ (0, 0) hpo
  have hpl := lt_of hpo
  have hn2 : n0 ≤ w2.heap.size := Nat.le_trans HN.out hz
  obtain ⟨l, t, r, bt, n, d⟩ := q
  have hB : Below w2.heap.size w2 ((w2.alloc (.cells (lnqC ⟨l, t, r, bt, n, d⟩).toArray 65)).alloc (.cells (lnqC ⟨l, t, r, bt, n, d⟩).toArray 65)) := ((Below.refl _ _).alloc (Nat.le_refl _) _).alloc (by simp) _
  have HBB := Lib.hid hB
  have HOWN := Lib.hid (hown.below hB)
  have hnew := range_new (w2.alloc (.cells (lnqC ⟨l, t, r, bt, n, d⟩).toArray 65)) (lnqC ⟨l, t, r, bt, n, d⟩) 65
  rw [show (w2.alloc (.cells (lnqC ⟨l, t, r, bt, n, d⟩).toArray 65)).heap.size = w2.heap.size + 1 by simp] at hnew
  have HNEW := Lib.hid hnew
  clear hnew
  have HPO := Lib.hid (blk_keep hpo hB)
  have fz0 := frozen_of_row _ po 0 _ _ hpo
  clear hpo hown hB
  simp only [lnqC] at *
  go_wp2_with (first
    | ((with_reducible refine store_new (dst := none) 65 (.tmp 2) (.tmp 7) w2 _ #[.int .i64 l, .int .i64 t, .int .i64 r, .int .i64 bt, .int .i64 n, .int .i64 d] 65 rfl ?_ ?_ ?_ ?_ ?_ ?_); rfl; rfl; exact lineInfo; rfl; (simp [Value.oneCell']))
    | (at_builtin; refine sl_append _ lnElem lnqC_len lnqC_one rfl (.tmp 10) (.tmp 12) rfl n0 _ out (by rfl) HOWN.out ⟨l, t, r, bt, n, d⟩ _ _ (by rfl) HNEW.out (by omega) (by simp; omega) ?_; intro v2 w3 ho3 hg3 hw3; obtain ⟨ad3, cap3, rfl, hcap3⟩ := ho3.form; clear hcap3; have HO3 := Lib.hid ho3; have HG3 := Lib.hid hg3; have HW3 := Lib.hid hw3; have h5 := (hg3.block po (by simp; omega) (Ne.symm HNE.out)).trans HPO.out; clear ho3 hg3 hw3; have c3 : w3.cell? ⟨po, 0, none⟩ = some (.slice ad out.length cap) := cell_of_row w3 po 0 _ _ (0, 0) h5; have fz3 := frozen_of_row w3 po 0 _ _ h5))
  refine bodyPost_end (results_none rfl _ _ _) rfl ?_
  have h1 := HO3.out
  have h2 := HW3.out
  rw [List.length_append] at h1 h2
  exact ⟨rfl, (HW2.out.below' HBB.out hn2).more (by simp; omega) HPO.out h1 HG3.out h2, by have := HG3.out.size; simp at this ⊢; omega⟩
set_option maxRecDepth 20000 in
set_option maxHeartbeats 4000000 in
theorem ladd_none (L : List Fo) (a b y wd h : Int) (bb : Nat) (base sp : Nat) (w : World) (hs : SpaceIs w base sp L) (gb : w.heap[bb]? = some (.cells #[.pointer (some ⟨sp, 0, none⟩), .int .i64 a, .int .i64 b, .int .i64 y, .pointer none] 135 (0, 0)))
    (hok : SpOk L) (hsm : ∀ f ∈ L, smallF f = true) (ha : -1125899906842624 ≤ a ∧ a ≤ 1125899906842624) (hb : -1125899906842624 ≤ b ∧ b ≤ 1125899906842624) (hy : -4503599627370496 ≤ y ∧ y ≤ 2251799813685248) (hh : -1125899906842624 ≤ h ∧ h ≤ 1125899906842624) :
    Calls Try.prog 37 #[.pointer (some ⟨bb, 0, none⟩), .agg #[.int .i64 wd, .int .i64 h]] w fun e w' => e = .returned (.bool true) ∧ LBegPost L a b y wd h bb sp w (.returned (.tuple #[])) w' := by
  obtain ⟨W, hW⟩ : ∃ W, w.alloc (.cells #[.int .i64 wd, .int .i64 h] 76) = W := ⟨_, rfl⟩
  have hB : Below w.heap.size w W := by rw [← hW]; exact (Below.refl _ _).alloc (Nat.le_refl _) _
  have gb1 := blk_keep gb hB
  have hbl := lt_of gb
  have hbg := begin_any13 L a b y wd h bb (.pointer none) base sp W (hs.below hB (Nat.le_refl _)) gb1 hok hsm ha hb hy hh
  have q4 : (w.alloc (.cells #[.int .i64 wd, .int .i64 h] 76)).cell? ⟨bb, 4, none⟩ = some (.pointer none) := by rw [hW]; exact (box5v gb1).2.2.2.2
  have HBG := Lib.hid hbg
  have HW := Lib.hid hW
  have HB := Lib.hid hB
  clear hs gb gb1 hok hsm ha hb hy hh hbg hB hW
  go_enter Try.func37, Try.ntmps37
  go_wp2_with fail
  rw [HW.out]
  refine HBG.out.mono ?_
  rintro e w2 ⟨rfl, k, p1, p2, p3, hg⟩
  have HP := Lib.hid (show LBegPost L a b y wd h bb sp w (.returned (.tuple #[])) w2 from ⟨rfl, k, Nat.le_trans HB.out.size p1, p2, p3, grown_trans (grown_of_below HB.out _) hg⟩)
  clear p1 p2 p3 hg
  go_wp2_with fail
  go_ret
  exact ⟨rfl, HP.out⟩
def szC (z : Int × Int) : List Value := [.int .i64 z.1, .int .i64 z.2]
theorem cf_alle : ∀ (a : Array Value) (w : World), Sem.run Try.prog (callFunc 65 a) w = .ok (.enter 65 a) w := fun a w => by kernel_rfl
def LAllPost (L : List Fo) (a b y : Int) (zs : List (Int × Int)) (w : World) (e : Ending) (w' : World) : Prop := ∃ v, e = .returned v ∧ OwnSl lnqC 6 65 w' w.heap.size v (lnAll L a b y zs) ∧ Below w.heap.size w w'
theorem szInfo : (Try.prog.info? 76).map (·.size) = some 2 := by kernel_rfl
/-- The state in a round. -/
def LnR (L : List Fo) (M a b y : Int) (zs : List (Int × Int)) (w0 : World) (bb pb po sp i : Nat) (wr : World) : Prop := ∃ X : Nat × Obj, LnW w0.heap.size w0 wr bb pb po sp a b X ((zs.take i).foldl (lnAdd L a b) ⟨y, none, []⟩)
set_option maxRecDepth 20000 in
set_option maxHeartbeats 4000000 in
theorem all_any13 (L : List Fo) (M a b y : Int) (zs : List (Int × Int)) (v : Value) (base sp : Nat) (w : World) (hs : SpaceIs w base sp L) (hv : IsSl szC 2 w v zs) (hz : ∀ z ∈ zs, szOk z) (hl : zs.length ≤ 1000)
    (hok : SpOk L) (hsm : ∀ f ∈ L, smallF f = true) (hM : ∀ s ∈ full (shelves L), s.t ≤ M) (hb2 : -1125899906842624 ≤ M ∧ M ≤ 1125899906842624) (ha : -1125899906842624 ≤ a ∧ a ≤ 1125899906842624) (hb : -1125899906842624 ≤ b ∧ b ≤ 1125899906842624) (hy : -4503599627370496 ≤ y ∧ y ≤ M) :
    Calls Try.prog 31 #[.pointer (some ⟨sp, 0, none⟩), .agg #[.int .i64 a, .int .i64 b], .int .i64 y, v] w (LAllPost L a b y zs w) := by
  obtain ⟨A, cap, rfl, hcap, hA⟩ := hv
  have HA := hA
  have HS := Lib.hid (fun w' (e : Below w.heap.size w w') => hs.below e (Nat.le_refl _))
  have HOK := Lib.hid hok
  have HSM := Lib.hid hsm
  have HMM := Lib.hid hM
  have HZ := Lib.hid hz
  clear hA hcap hs hok hsm hM hz
  go_enter Try.func31, Try.ntmps31
  go_wp2_with fail
  refine (lnew_any _ _ _ _ _).mono ?_
  rintro e w1 ⟨bb, rfl, g1, hl1, hb1⟩
  have hB0 : Below w.heap.size w w1 := ((Below.refl w.heap.size w).alloc (Nat.le_refl _) _).trans (hb1.mono (by simp))
  have hz1 := hb1.size
  have hbl := lt_of g1
  obtain ⟨pb, hpb⟩ : ∃ p, w1.heap.size = p := ⟨_, rfl⟩
  obtain ⟨W, hW⟩ : ∃ W, (w1.alloc (.cells #[.pointer (some ⟨bb, 0, none⟩)] 73)).alloc (.cells #[.slice none 0 0] 58) = W := ⟨_, rfl⟩
  have hBW : Below w1.heap.size w1 W := by rw [← hW]; exact ((Below.refl _ _).alloc (Nat.le_refl _) _).alloc (by simp) _
  have hst : LnR L M a b y zs w bb pb (pb + 1) sp 0 W := by
    unfold LnR
    simp only [List.take_zero, List.foldl_nil]
    have gx := blk_keep (blk_keep (heap_alloc_new w (.cells #[.int .i64 a, .int .i64 b] 61)) hb1) hBW
    refine ⟨(w.heap.size, .cells #[.int .i64 a, .int .i64 b] 61 (0, 0)), hB0.trans (hBW.mono (by simp at hz1; omega)), ⟨by simp at hl1; omega, by simp at hz1; omega, by simp at hz1; omega⟩, ⟨by omega, by omega, by omega⟩, ⟨gx, Nat.le_refl _, by simp at hl1; show w.heap.size ≠ bb; omega, by simp at hz1; show w.heap.size ≠ pb; omega, by simp at hz1; show w.heap.size ≠ pb + 1; omega⟩, ?_, .slice none 0 0, .pointer none, ?_, OwnSl.nil (.inl (by decide)) _ _ _, ⟨by simp [Value.ownBlock], by simp [Value.ownBlock], by simp [Value.ownBlock], by simp [Value.ownBlock]⟩, blk_keep g1 hBW, rfl⟩
    · rw [← hW, ← hpb, heap_alloc_old _ _ (by simp), heap_alloc_new]
    · rw [← hW, ← hpb]; exact heap_alloc2_new w1 _ _
  have HST := Lib.hid hst
  have HW := Lib.hid hW
  have HPB := Lib.hid hpb
  have hn0 : w.heap.size ≤ W.heap.size := by have := hB0.size; have := hBW.size; omega
  clear g1 hl1 hb1 hB0 hBW hst hW hz1 hbl
  go_wp2_with fail
  rw [HW.out]
  (try rw [HPB.out])
  (try simp only [Act.put, List.setIfInBounds_toArray, List.set_cons_zero, List.set_cons_succ])
  go_loopw [21] (fun x wr => ∃ i : Nat, i ≤ zs.length ∧ x = .int .i64 i ∧ Hid (LnR L M a b y zs w bb pb (pb + 1) sp i wr ∧ w.heap.size ≤ wr.heap.size)) (fun x _ => zs.length - (intOf x).toNat)
  case atStart => exact ⟨0, by omega, rfl, Lib.hid ⟨HST.out, hn0⟩⟩
  case round =>
    obtain ⟨i, hi, rfl, hI⟩ := hrel
    obtain ⟨po, hpo⟩ : ∃ p, pb + 1 = p := ⟨_, rfl⟩
    rw [hpo] at hI ⊢
    have HPO := Lib.hid hpo
    clear hpo HST hn0 HPB HW
    obtain ⟨st, hst⟩ : ∃ s, (zs.take i).foldl (lnAdd L a b) ⟨y, none, []⟩ = s := ⟨_, rfl⟩
    have hinv : LnI M i st := by
      rw [← hst]
      exact ln_foldl HSM.out HMM.out (zs.take i) 0 i _ (fun z hz => HZ.out z (List.mem_of_mem_take hz)) ⟨⟨by show _ ≤ y; omega, by show y ≤ _; omega⟩, fun q e => by simp at e, by simp⟩ (by rw [List.length_take]; omega) (by omega)
    obtain ⟨⟨X, hLW⟩, hnr⟩ := hI.out
    rw [hst] at hLW
    by_cases hlt : i < zs.length
    · obtain ⟨g, o, rfl, hg, hsl⟩ := HA.out (by omega)
      have hst1 : (zs.take (i + 1)).foldl (lnAdd L a b) ⟨y, none, []⟩ = lnAdd L a b st zs[i] := by rw [List.take_succ_eq_append_getElem hlt, List.foldl_append, hst]; rfl
      have hzi := HZ.out zs[i] (List.getElem_mem hlt)
      have hcs : wr.rangeAt g (o + i * 2) (szC zs[i]) := fun j v hv => (hLW.below.cell (p := ⟨g, o + i * 2 + j, none⟩) hg).trans (hsl i hlt j v hv)
      obtain ⟨⟨zw, zh⟩, hzz⟩ : ∃ z, zs[i] = z := ⟨_, rfl⟩
      rw [hzz] at hst1 hzi hcs
      have u0 := hcs 0 _ rfl
      have u1 := hcs 1 _ rfl
      rw [Nat.add_zero] at u0
      have hgl : g < wr.heap.size := by omega
      have q0 : wr.cell? ⟨pb, 0, none⟩ = some (.pointer (some ⟨bb, 0, none⟩)) := cell_of_row wr pb 0 _ _ (0, 0) hLW.gp
      have hpbl := lt_of hLW.gp
      have hwa := hLW.watch hnr (.cells #[.int .i64 zw, .int .i64 zh] 76)
      obtain ⟨wa, hwaq⟩ : ∃ wa, wr.alloc (.cells #[.int .i64 zw, .int .i64 zh] 76) = wa := ⟨_, rfl⟩
      have hza : wa.heap.size = wr.heap.size + 1 := by rw [← hwaq]; simp
      obtain ⟨bz, hbz⟩ : ∃ b, wr.heap.size = b := ⟨_, rfl⟩
      rw [hwaq, hbz] at hwa
      have HWA := Lib.hid hwa
      have HWAQ := Lib.hid hwaq
      have HBZ := Lib.hid hbz
      have HST1 := Lib.hid hst1
      have HINV := Lib.hid hinv
      have HZI := Lib.hid hzi
      have hna : w.heap.size ≤ wa.heap.size := by omega
      clear hwa hwaq hbz hst1 hinv hzi hcs hsl hLW hI hst hzz
      go_wp2_with (first
        | ((with_reducible refine store_new (dst := none) 76 (.tmp 13) (.tmp 24) wr _ #[.int .i64 zw, .int .i64 zh] 76 rfl ?_ ?_ ?_ ?_ ?_ ?_); rfl; rfl; exact szInfo; rfl; (simp [Value.oneCell'])))
      rw [HWAQ.out]
      (try rw [HBZ.out])
      have hsa := HS.out wa HWA.out.below
      have hiv := HINV.out
      obtain ⟨⟨z1, z2⟩, z3, z4⟩ := HZI.out
      simp only at z1 z2 z3 z4
      obtain ⟨sy, now, out⟩ := st
      have hol : out.length ≤ i := hiv.len
      have hsy := hiv.y
      simp only at hsy
      clear q0 hpbl u0 u1
      cases now with
      | none =>
        have hgb : wa.heap[bb]? = some (.cells (bldC sp a b sy (.pointer none)) 135 (0, 0)) := by
          obtain ⟨_, _, _, _, _, v, nw, _, _, _, h8, h9⟩ := HWA.out
          have h9 : nw = .pointer none := h9
          rw [h9] at h8
          exact h8
        refine (ladd_none L a b sy zw zh bb base sp wa hsa hgb HOK.out HSM.out ha hb (by omega) (by omega)).mono ?_
        rintro e w2 ⟨rfl, hp⟩
        have hz2 : wa.heap.size ≤ w2.heap.size := by obtain ⟨_, _, _, _, _, hg2⟩ := hp; exact hg2.size
        have HR := Lib.hid (show LnR L M a b y zs w bb pb po sp (i + 1) w2 from ⟨_, by rw [HST1.out]; exact HWA.out.begun hna hp⟩)
        clear hp hgb hsa hiv
        go_wp2_with fail
        go_roundw
        case rel => exact ⟨i + 1, by omega, by go_num, Lib.hid ⟨HPO.out ▸ HR.out, by omega⟩⟩
        case measure => simp [intOf]; omega
      | some q =>
        obtain ⟨k, hgb, hgk⟩ := HWA.out.now
        have hq := hiv.q q rfl
        refine (ladd_some L a b sy zw zh q bb k base sp wa hsa hgb hgk HOK.out HSM.out ⟨by omega, by omega, by omega, by omega⟩ (by omega) (by omega) ha hb).mono ?_
        rintro e w2 ⟨rfl, hp, hg2⟩
        have hz2 := hg2.size
        have hW2 := HWA.out.added hna hgb hp hg2
        have hn2 : w.heap.size ≤ w2.heap.size := by omega
        cases hft : fitsQ L a b q zw zh with
        | true =>
          rw [hft] at hW2
          simp only [if_true] at hW2
          have HR := Lib.hid (show LnR L M a b y zs w bb pb po sp (i + 1) w2 from ⟨_, by rw [HST1.out]; simp only [lnAdd, hft, if_true]; exact hW2⟩)
          clear hp hgb hgk hsa hiv hW2 hg2 hft
          go_wp2_with fail
          go_roundw
          case rel => exact ⟨i + 1, by omega, by go_num, Lib.hid ⟨HPO.out ▸ HR.out, by omega⟩⟩
          case measure => simp [intOf]; omega
        | false =>
          rw [hft] at hW2
          simp only [Bool.false_eq_true, if_false] at hW2
          have hst2 := HST1.out
          simp only [lnAdd, hft, Bool.false_eq_true, if_false] at hst2
          have HST2 := Lib.hid hst2
          have hae := alle_some _ w.heap.size bb pb po sp w w2 a b sy q out hW2 hn2 (by omega)
          have HAE := Lib.hid hae
          clear hst2 hae hp hgb hgk hsa hiv hW2 hg2 hft HST1
          have hcf := cf_alle
          go_wp2_with fail
          refine HAE.out.mono ?_
          rintro e w3 ⟨rfl, hW3⟩
          have hz3 : w2.heap.size ≤ w3.heap.size := hW3.2
          have hW3 := hW3.1
          have p0 : w3.cell? ⟨pb, 0, none⟩ = some (.pointer (some ⟨bb, 0, none⟩)) := cell_of_row w3 pb 0 _ _ (0, 0) hW3.gp
          have b0 : w3.cell? ⟨bz, 0, none⟩ = some (.int .i64 zw) := cell_of_row w3 bz 0 _ _ (0, 0) hW3.x.1
          have b1 : w3.cell? ⟨bz, 1, none⟩ = some (.int .i64 zh) := cell_of_row w3 bz 1 _ _ (0, 0) hW3.x.1
          have hn3 : w.heap.size ≤ w3.heap.size := by omega
          have hsa3 := HS.out w3 hW3.below
          have hgb3 : w3.heap[bb]? = some (.cells (bldC sp a b q.b (.pointer none)) 135 (0, 0)) := by
            obtain ⟨_, _, _, _, _, v, nw, _, _, _, h8, h9⟩ := hW3
            have h9 : nw = .pointer none := h9
            rw [h9] at h8
            exact h8
          have HAD := Lib.hid (ladd_none L a b q.b zw zh bb base sp w3 hsa3 hgb3 HOK.out HSM.out ha hb (by omega) (by omega))
          have HW3 := Lib.hid hW3
          clear hW3 hsa3 hgb3 hcf
          go_wp2_with fail
          refine HAD.out.mono ?_
          rintro e w4 ⟨rfl, hp⟩
          have hz4 : w3.heap.size ≤ w4.heap.size := by obtain ⟨_, _, _, _, _, hg2⟩ := hp; exact hg2.size
          have HR := Lib.hid (show LnR L M a b y zs w bb pb po sp (i + 1) w4 from ⟨_, by rw [HST2.out]; exact HW3.out.begun hn3 hp⟩)
          clear hp p0 b0 b1
          go_wp2_with fail
          go_roundw
          case rel => exact ⟨i + 1, by omega, by go_num, Lib.hid ⟨HPO.out ▸ HR.out, by omega⟩⟩
          case measure => simp [intOf]; omega
    · have hir : i = zs.length := by omega
      subst hir
      have hcf := cf_alle
      have hst2 := hst
      rw [List.take_length] at hst2
      obtain ⟨sy, now, out⟩ := st
      have hlen : out.length ≤ zs.length := hinv.len
      have hend : Calls Try.prog 65 #[.pointer (some ⟨pb, 0, none⟩), .pointer (some ⟨po, 0, none⟩)] wr fun e w' => e = .returned (.tuple #[]) ∧ LnW w.heap.size w w' bb pb po sp a b X (lnEnd ⟨sy, now, out⟩) ∧ wr.heap.size ≤ w'.heap.size := by
        cases now with
        | none => exact alle_none _ _ _ _ _ _ _ _ _ _ _ _ hLW hnr
        | some q => exact alle_some _ _ _ _ _ _ _ _ _ _ _ _ _ hLW hnr (by show out.length ≤ _; omega)
      have HEND := Lib.hid hend
      have HLA := Lib.hid (show (lnEnd ⟨sy, now, out⟩).out = lnAll L a b y zs by unfold lnAll; rw [hst2])
      clear hend hst2 hst hLW hI hinv hlt hlen
      go_wp2_with fail
      refine HEND.out.mono ?_
      rintro e w2 ⟨rfl, hW2, hz2⟩
      obtain ⟨v2, nw, h5, h6, _⟩ := hW2.go
      have c1 : w2.cell? ⟨po, 0, none⟩ = some v2 := cell_of_row w2 po 0 _ _ (0, 0) h5
      rw [HLA.out] at h6
      have H6 := Lib.hid h6
      have HB := Lib.hid hW2.below
      clear hW2 h5 h6 hcf
      go_wp2_with fail
      go_ret
      exact ⟨v2, rfl, H6.out, HB.out⟩
end Go.Proofs.Ytecojcdmigmnhaa
