/- Law LineFirst: its closure. -/
import Derived.Test.YtecojcdmigmnhaaLr
namespace Go.Proofs.Ytecojcdmigmnhaa
set_option linter.unusedSimpArgs false
set_option linter.unusedVariables false
open Go.RowKit
theorem soLn_mono {L : List Fo} {a b wd h y z : Int} (hyz : y ≤ z) (hc : ∀ x, y ≤ x → x ≤ z → bnd L x = bnd L y) (hs : soLn L a b wd h z = true) : soLn L a b wd h y = true := by
  have hm := bnds_mono (h := h) hyz hc
  unfold soLn freeS at hs ⊢
  simp only [decide_eq_true_eq] at hs ⊢
  omega
theorem soLn_far {L : List Fo} {a b wd h z : Int} (hz : ∀ f ∈ L, f.y1 ≤ z) (ha : -far ≤ a) (hb : b ≤ far) : soLn L a b wd h z = true := by
  unfold soLn freeS
  rw [bnds_beyond hz]
  simp only [decide_eq_true_eq]
  omega
theorem soLn_first {L : List Fo} (hl : Lowish L) {a b wd h y : Int} (hy : -far ≤ y) (ha : -far ≤ a) (hb : b ≤ far) : IsFirst (soLn L a b wd h) y (topQ L a b y wd h) :=
  first_is hl (fun _ _ _ h1 h2 h3 => soLn_mono h1 h2 h3) (fun y _ => by
    obtain ⟨z, h1, h2⟩ := beyond L y
    exact ⟨z, h1, soLn_far h2 ha hb⟩) _ y rfl hy
/-- What the law's closure finds in memory. -/
structure RoomIs (w : World) (bz bs bc bf bt base sp : Nat) (L : List Fo) (a b wd h : Int) : Prop where
  z : w.heap[bz]? = some (.cells #[.int .i64 wd, .int .i64 h] 67 (0, 0))
  s : w.heap[bs]? = some (.cells #[.pointer (some ⟨sp, 0, none⟩)] 34 (0, 0))
  c : w.heap[bc]? = some (.cells #[.int .i64 a, .int .i64 b] 61 (0, 0))
  f : w.heap[bf]? = some (.cells #[.int .i64 a] 3 (0, 0))
  t : w.heap[bt]? = some (.cells #[.int .i64 b] 3 (0, 0))
  sp : SpaceIs w base sp L
theorem RoomIs.below {w w' : World} {bz bs bc bf bt base sp : Nat} {L : List Fo} {a b wd h : Int} (hr : RoomIs w bz bs bc bf bt base sp L a b wd h) (hb : Below w.heap.size w w') : RoomIs w' bz bs bc bf bt base sp L a b wd h :=
  ⟨blk_keep hr.z hb, blk_keep hr.s hb, blk_keep hr.c hb, blk_keep hr.f hb, blk_keep hr.t hb, hr.sp.below hb (Nat.le_refl _)⟩
theorem cf_room : ∀ (a : Array Value) (w : World), Sem.run Try.prog (callFunc 39 a) w = .ok (.enter 39 a) w := fun a w => by kernel_rfl
set_option maxRecDepth 20000 in
set_option maxHeartbeats 4000000 in
theorem room_any (L : List Fo) (a b wd h y : Int) (bz bs bc bf bt base sp : Nat) (w : World) (hr : RoomIs w bz bs bc bf bt base sp L a b wd h)
    (hok : SpOk L) (hsm : ∀ f ∈ L, smallF f = true) (ha : -1125899906842624 ≤ a ∧ a ≤ 1125899906842624) (hb : -1125899906842624 ≤ b ∧ b ≤ 1125899906842624) (hy : -4503599627370496 ≤ y ∧ y ≤ 2251799813685248) (hh : -1125899906842624 ≤ h ∧ h ≤ 1125899906842624) :
    Calls Try.prog 39 #[.int .i64 y, .pointer (some ⟨bz, 0, none⟩), .pointer (some ⟨bs, 0, none⟩), .pointer (some ⟨bc, 0, none⟩), .pointer (some ⟨bf, 0, none⟩), .pointer (some ⟨bt, 0, none⟩)] w fun e w' => e = .returned (.bool (soLn L a b wd h y)) ∧ Below w.heap.size w w' := by
  have hg := hgh_pos h
  have hg2 : hgh h ≤ 1125899906842624 := by unfold hgh; omega
  have hrw := fun w => srows_any y h w (by omega) (by omega)
  have hbd := fun w hw => bounds10_any L y (y + hgh h) base sp w hw hok (by unfold Mid; omega) (by unfold Mid; omega) (by unfold far; omega)
  have hfr := fun w hw => free_any L a b y (y + hgh h) base sp w hw hok (by unfold Mid; omega) (by unfold Mid; omega) (by unfold far; omega)
  have hed := bnds_edge hsm y h
  have hl2 := fun w => slen_any a b w (by unfold Mid; omega) (by unfold Mid; omega)
  unfold SpanPost at hrw hbd hfr
  unfold soLn freeS bnds
  unfold bnds at hed
  obtain ⟨yb, hyb⟩ : ∃ b, y + hgh h = b := ⟨_, rfl⟩
  rw [hyb] at hbd hfr hed ⊢
  simp only [hyb] at hrw
  generalize band L y yb = p at *
  obtain ⟨p1, p2⟩ := p
  simp only at hfr hbd hed ⊢
  obtain ⟨r1, hr1⟩ : ∃ r, max a p1 = r := ⟨_, rfl⟩
  obtain ⟨r2, hr2⟩ : ∃ r, min b p2 = r := ⟨_, rfl⟩
  rw [hr1, hr2] at hfr ⊢
  unfold far at hed
  have hl1 := fun w => slen_any r1 r2 w (by unfold Mid; omega) (by unfold Mid; omega)
  obtain ⟨sv, hsv⟩ : ∃ s, decide (wd ≤ r2 - r1 ∨ (b - a < wd ∧ p1 ≤ a ∧ b ≤ p2)) = s := ⟨_, rfl⟩
  rw [hsv]
  have HRM := Lib.hid (fun w' (e : Below w.heap.size w w') => hr.below e)
  have HSV := Lib.hid hsv
  have HRW := Lib.hid hrw
  have HBD := Lib.hid hbd
  have HFR := Lib.hid hfr
  have HL1 := Lib.hid hl1
  have HL2 := Lib.hid hl2
  have c1 : w.cell? ⟨bz, 1, none⟩ = some (.int .i64 h) := cell_of_row w bz 1 _ _ (0, 0) hr.z
  clear hr hsv hrw hbd hfr hl1 hl2 hed hr1 hr2 hyb hg hg2
  go_enter Try.func39, Try.ntmps39
  go_wp2_with fail
  refine (HRW.out w).mono ?_
  rintro e w1 ⟨rfl, hb1⟩
  have HB1 := Lib.hid hb1
  clear hb1 c1
  go_wp2_with (first
    | ((with_reducible refine store_new (dst := none) 61 (.tmp 8) (.tmp 14) w1 _ #[.int .i64 y, .int .i64 yb] 61 rfl ?_ ?_ ?_ ?_ ?_ ?_); rfl; rfl; exact spanInfo; rfl; (simp [Value.oneCell'])))
  have hb2 := (Below.refl w1.heap.size w1).alloc (Nat.le_refl _) (.cells #[.int .i64 y, .int .i64 yb] 61)
  have g2 := heap_alloc_new w1 (.cells #[.int .i64 y, .int .i64 yb] 61)
  obtain ⟨w2, hw2⟩ : ∃ w2, w1.alloc (.cells #[.int .i64 y, .int .i64 yb] 61) = w2 := ⟨_, rfl⟩
  obtain ⟨k8, hk8⟩ : ∃ k, w1.heap.size = k := ⟨_, rfl⟩
  rw [hw2] at hb2 g2 ⊢
  rw [hk8] at g2 ⊢
  have HB2 := Lib.hid (HB1.out.trans (hb2.mono HB1.out.size))
  have HK : Hid (∀ w', Below w2.heap.size w2 w' → w'.cell? ⟨bs, 0, none⟩ = some (.pointer (some ⟨sp, 0, none⟩)) ∧ w'.cell? ⟨bc, 0, none⟩ = some (.int .i64 a) ∧ w'.cell? ⟨bc, 1, none⟩ = some (.int .i64 b) ∧ w'.cell? ⟨k8, 0, none⟩ = some (.int .i64 y) ∧ w'.cell? ⟨k8, 1, none⟩ = some (.int .i64 yb)) := Lib.hid fun w' e =>
    have hr := HRM.out w' (HB2.out.trans (e.mono HB2.out.size))
    ⟨cell_of_row w' bs 0 _ _ (0, 0) hr.s, cell_of_row w' bc 0 _ _ (0, 0) hr.c, cell_of_row w' bc 1 _ _ (0, 0) hr.c, cell_of_row w' k8 0 _ _ (0, 0) (blk_keep g2 e), cell_of_row w' k8 1 _ _ (0, 0) (blk_keep g2 e)⟩
  have HSP : Hid (∀ w', Below w2.heap.size w2 w' → SpaceIs w' base sp L) := Lib.hid fun w' e => (HRM.out w' (HB2.out.trans (e.mono HB2.out.size))).sp
  clear hb2 g2 hw2 hk8
  (refine wp_region_laid_l (by kernel_rfl) [⟨false, 9, 61, 18, none⟩, ⟨false, 10, 61, 21, none⟩] 11 (by kernel_rfl) (by kernel_rfl) ?_; (repeat (first | (refine wpLex_laid (by rfl) ?_) | (refine wpLex_no (by rfl) (by rfl) ?_; go_simp) | (refine wpLex_val (by rfl) (by rfl) _ (by intro wq hq; have hSw := HK.out wq hq; (try dsimp only at hSw); go_simp; rfl) ?_; go_simp) | (refine wpLex_call (by rfl) (by rfl) _ _ (by intro wq hq; have hSw := HK.out wq hq; (try dsimp only at hSw); go_simp; exact ⟨rfl, rfl⟩) _ (by intro wq hq; have hSw := HK.out wq hq; (try dsimp only at hSw); first | (go_at_call 33; exact (HFR.out wq (HSP.out wq hq))) | (go_at_call 40; exact (HBD.out wq (HSP.out wq hq)))) ?_; go_simp))); refine wpLex_zero ?_)
  refine lend_two (.agg #[.int .i64 r1, .int .i64 r2]) (.agg #[.int .i64 p1, .int .i64 p2]) rfl rfl rfl rfl (Fits.row spanInfo (by simp [Value.oneCell'])) (Fits.row spanInfo (by simp [Value.oneCell'])) (by unfold Zeros; kernel_rfl) (by unfold Zeros; kernel_rfl) fun b9 b10 w3 hb9 hb10 hne hB3 g9 g10 => ?_
  refine wpList_done ?_
  simp only [Laid.val, Act.put, List.setIfInBounds_toArray, List.set_cons_zero, List.set_cons_succ]
  have HB3 := Lib.hid (HB2.out.trans (hB3.mono HB2.out.size))
  have G9 : Hid (w3.heap[b9]? = some (.cells #[.int .i64 r1, .int .i64 r2] 61 (0, 0))) := Lib.hid g9
  have G10 : Hid (w3.heap[b10]? = some (.cells #[.int .i64 p1, .int .i64 p2] 61 (0, 0))) := Lib.hid g10
  have HK3 : Hid (∀ w', Below w3.heap.size w3 w' → w'.cell? ⟨bz, 0, none⟩ = some (.int .i64 wd) ∧ w'.cell? ⟨bc, 0, none⟩ = some (.int .i64 a) ∧ w'.cell? ⟨bc, 1, none⟩ = some (.int .i64 b) ∧ w'.cell? ⟨bf, 0, none⟩ = some (.int .i64 a) ∧ w'.cell? ⟨bt, 0, none⟩ = some (.int .i64 b) ∧ w'.cell? ⟨b9, 0, none⟩ = some (.int .i64 r1) ∧ w'.cell? ⟨b9, 1, none⟩ = some (.int .i64 r2) ∧ w'.cell? ⟨b10, 0, none⟩ = some (.int .i64 p1) ∧ w'.cell? ⟨b10, 1, none⟩ = some (.int .i64 p2)) := Lib.hid fun w' e =>
    have hr := HRM.out w' (HB3.out.trans (e.mono HB3.out.size))
    ⟨cell_of_row w' bz 0 _ _ (0, 0) hr.z, cell_of_row w' bc 0 _ _ (0, 0) hr.c, cell_of_row w' bc 1 _ _ (0, 0) hr.c, cell_of_row w' bf 0 _ _ (0, 0) hr.f, cell_of_row w' bt 0 _ _ (0, 0) hr.t, cell_of_row w' b9 0 _ _ (0, 0) (blk_keep G9.out e), cell_of_row w' b9 1 _ _ (0, 0) (blk_keep G9.out e), cell_of_row w' b10 0 _ _ (0, 0) (blk_keep G10.out e), cell_of_row w' b10 1 _ _ (0, 0) (blk_keep G10.out e)⟩
  clear hB3 g9 g10 hb9 hb10 hne HK
  go_wp2_with fail
  have hcs : (wd ≤ r2 - r1 ∧ sv = true) ∨ (¬ wd ≤ r2 - r1 ∧ ¬ b - a < wd ∧ sv = false) ∨ (¬ wd ≤ r2 - r1 ∧ b - a < wd ∧ ¬ p1 ≤ a ∧ sv = false) ∨ (¬ wd ≤ r2 - r1 ∧ b - a < wd ∧ p1 ≤ a ∧ ¬ b ≤ p2 ∧ sv = false) ∨ (¬ wd ≤ r2 - r1 ∧ b - a < wd ∧ p1 ≤ a ∧ b ≤ p2 ∧ sv = true) := by
    have e := HSV.out
    by_cases h1 : wd ≤ r2 - r1
    · exact .inl ⟨h1, by rw [← e]; exact decide_eq_true (.inl h1)⟩
    · by_cases h2 : b - a < wd
      · by_cases h3 : p1 ≤ a
        · by_cases h4 : b ≤ p2
          · exact .inr (.inr (.inr (.inr ⟨h1, h2, h3, h4, by rw [← e]; exact decide_eq_true (.inr ⟨h2, h3, h4⟩)⟩)))
          · exact .inr (.inr (.inr (.inl ⟨h1, h2, h3, h4, by rw [← e]; exact decide_eq_false (by omega)⟩)))
        · exact .inr (.inr (.inl ⟨h1, h2, h3, by rw [← e]; exact decide_eq_false (by omega)⟩))
      · exact .inr (.inl ⟨h1, h2, by rw [← e]; exact decide_eq_false (by omega)⟩)
  clear HSV
  rcases hcs with ⟨e1, es⟩ | ⟨e1, e2, es⟩ | ⟨e1, e2, e3, es⟩ | ⟨e1, e2, e3, e4, es⟩ | ⟨e1, e2, e3, e4, es⟩ <;> subst es
  all_goals
    (refine wp_region_laid_l (by kernel_rfl) [] 25 (by kernel_rfl) (by kernel_rfl) ?_; (repeat (first | (refine wpLex_laid (by rfl) ?_) | (refine wpLex_no (by rfl) (by rfl) ?_; go_simp) | (refine wpLex_val (by rfl) (by rfl) _ (by intro wq hq; have hSw := HK3.out wq hq; (try dsimp only at hSw); go_simp; rfl) ?_; go_simp) | (refine wpLex_call (by rfl) (by rfl) _ _ (by intro wq hq; have hSw := HK3.out wq hq; (try dsimp only at hSw); go_simp; exact ⟨rfl, rfl⟩) _ (by intro wq hq; have hSw := HK3.out wq hq; (try dsimp only at hSw); first | (go_at_call 35; exact (HL1.out wq)) | (go_at_call 35; exact (HL2.out wq))) ?_; go_simp))); refine wpLex_zero ?_)
    refine lend_none fun w4 hb4 => ?_
    have HB4 := Lib.hid (HB3.out.trans (hb4.mono HB3.out.size))
    clear hb4
    go_wp2_with fail
    go_ret
    exact ⟨by first | rfl | simp [*], HB4.out⟩
end Go.Proofs.Ytecojcdmigmnhaa
