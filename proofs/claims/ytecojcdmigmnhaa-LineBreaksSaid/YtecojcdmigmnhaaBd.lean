/- The contracts of (rect.Span).Clip and (*shelf.List).Band. -/
import Derived.Test.YtecojcdmigmnhaaAf
import Derived.Deep.RegionHeld3
namespace Go.Proofs.Ytecojcdmigmnhaa
set_option linter.unusedSimpArgs false
set_option linter.unusedVariables false
open Go.RowKit
set_option maxRecDepth 20000 in
theorem clip_any (a b c d : Int) (w : World) : Calls Try.prog 67 #[.agg #[.int .i64 a, .int .i64 b], .agg #[.int .i64 c, .int .i64 d]] w fun e w' => e = .returned (.agg #[.int .i64 (max a c), .int .i64 (min b d)]) ∧ Below w.heap.size w w' := by
  go_enter Try.func67, Try.ntmps67
  go_wp2
  all_goals
    refine bodyPost_ret (v := .agg #[.int .i64 (max a c), .int .i64 (min b d)]) ?_ rfl ⟨rfl, by (repeat (first | exact Below.refl _ _ | (refine Below.alloc ?_ (by first | omega | (simp; done) | (simp; omega)) _) | (refine Below.on (by assumption) ?_ (by first | omega | (simp; done) | (simp; omega))) | (refine Below.grown ?_ (by assumption) (by first | omega | (simp; done) | (simp; omega)) (by intro k hk; cases hk)) | refine Below.drew ?_))⟩
    simp [results, Try.results67, go_sem]
    omega
/-- What Band answers. -/
def fbB (F : List Sh) (a b : Int) : Int × Int := if b ≤ a then (-far, far) else fb b (F.drop (findS F a)) (-far, far)
def BandPost (F : List Sh) (a b : Int) (w : World) (e : Ending) (w' : World) : Prop :=
  e = .returned (.agg #[.int .i64 (fbB F a b).1, .int .i64 (fbB F a b).2]) ∧ Below w.heap.size w w'
/-- One round of Band's loop. -/
theorem fb_more (b : Int) (F : List Sh) (i : Nat) (p : Int × Int) (hi : i < F.length) : fb b (F.drop i) p = if b ≤ (shAt F i).t then p else fb b (F.drop (i + 1)) (clipP p ((shAt F i).l, (shAt F i).r)) := by
  rw [← List.getElem_cons_drop (h := hi), shAt_eq F i hi]
  rfl
/-- What stands in Band's loop. -/
def BInv (F : List Sh) (a b : Int) (b0 fr : Nat) (res : Int × Int) (w : World) (i : Nat) (wr : World) : Prop :=
  Below w.heap.size w wr ∧ wr.heap[b0]? = some (.cells #[.int .i64 a, .int .i64 b] 61 (0, 0)) ∧ wr.heap[b0 + 1]? = some (.cells #[.int .i64 0, .int .i64 0] 61 (0, 0)) ∧ b0 + 3 ≤ wr.heap.size ∧
  ∃ p : Int × Int, wr.heap[b0 + 1 + 1]? = some (.cells #[.int .i64 p.1, .int .i64 p.2] 61 (0, 0)) ∧ fb b (F.drop (fr + i)) p = res
set_option maxRecDepth 20000 in
set_option maxHeartbeats 4000000 in
theorem band_any (F : List Sh) (a b : Int) (base lp : Nat) (w : World) (h : ListIs w base lp F) (hs : Asc F) (hL : F.length ≤ 1000000000) (h0 : 0 < F.length) (ma : Mid a) (mb : Mid b) :
    Calls Try.prog 68 #[.pointer (some ⟨lp, 0, none⟩), .agg #[.int .i64 a, .int .i64 b]] w (BandPost F a b w) := by
  have hsl := fun w => slen_any a b w ma mb
  have HSL := Lib.hid hsl
  clear hsl
  unfold BandPost fbB
  obtain ⟨b0, hb0⟩ : ∃ b, w.heap.size = b := ⟨_, rfl⟩
  by_cases hab : b ≤ a
  · rw [if_pos hab]
    have hd : decide (b - a ≤ 0) = true := decide_eq_true (by omega)
    clear hs h
    go_enter Try.func68, Try.ntmps68
    go_wp2_with fail
    refine (HSL.out _).mono ?_
    rintro e w1 ⟨rfl, hb1⟩
    obtain ⟨W3, hW3⟩ : ∃ W, ((w.alloc (.cells #[.int .i64 a, .int .i64 b] 61)).alloc (.cells #[.int .i64 0, .int .i64 0] 61)).alloc (.cells #[.int .i64 (-4503599627370496), .int .i64 4503599627370496] 61) = W := ⟨_, rfl⟩
    have hs3 : W3.heap.size = b0 + 3 := by rw [← hW3, ← hb0]; simp
    have r3 : W3.heap[b0]? = some (.cells #[.int .i64 a, .int .i64 b] 61 (0, 0)) := by rw [← hW3, ← hb0, heap_alloc_old _ _ (by simp; omega), heap_alloc_old _ _ (by simp), heap_alloc_new]
    have r4 : W3.heap[b0 + 1]? = some (.cells #[.int .i64 0, .int .i64 0] 61 (0, 0)) := by rw [← hW3, ← hb0, heap_alloc_old _ _ (by simp)]; exact heap_alloc2_new w _ _
    have r5 : W3.heap[b0 + 1 + 1]? = some (.cells #[.int .i64 (-4503599627370496), .int .i64 4503599627370496] 61 (0, 0)) := by
      have h := heap_alloc_new ((w.alloc (.cells #[.int .i64 a, .int .i64 b] 61)).alloc (.cells #[.int .i64 0, .int .i64 0] 61)) (.cells #[.int .i64 (-4503599627370496), .int .i64 4503599627370496] 61)
      rw [hW3] at h
      simpa [← hb0] using h
    have hB3 : Below w.heap.size w W3 := by rw [← hW3]; exact (((Below.refl _ _).alloc (Nat.le_refl _) _).alloc (by simp) _).alloc (by simp; omega) _
    rw [hW3] at hb1
    have R3 := Lib.hid ((hb1.block b0 (by omega)).trans r3)
    have R4 := Lib.hid ((hb1.block (b0 + 1) (by omega)).trans r4)
    have R5 := Lib.hid ((hb1.block (b0 + 1 + 1) (by omega)).trans r5)
    have HB1 := Lib.hid (Below.onto hb1 hB3)
    have hz1 := hb1.size
    rw [hs3] at hz1
    clear hb1 hB3 r3 r4 r5 hW3 hs3
    have c5 := cell_of_row w1 (b0 + 1 + 1) 0 _ _ (0, 0) R5.out
    have c6 := cell_of_row w1 (b0 + 1 + 1) 1 _ _ (0, 0) R5.out
    go_wp2_with (first
      | ((with_reducible refine store_row (dst := none) 61 (.tmp 4) (.tmp 12) (b0 + 1) _ #[.int .i64 (-4503599627370496), .int .i64 4503599627370496] 61 R4.out ?_ ?_ ?_ ?_ ?_ ?_); rfl; rfl; exact spanInfo; rfl; (simp [Value.oneCell']); intro w2 hw2 hg2 hz2; have HW2 := Lib.hid hw2; have HG2 := Lib.hid hg2; clear hw2 hg2))
    have d4 := cell_of_row w2 (b0 + 1) 0 _ _ (0, 0) HW2.out
    have d5 := cell_of_row w2 (b0 + 1) 1 _ _ (0, 0) HW2.out
    refine bodyPost_ret (v := .agg #[.int .i64 (-4503599627370496), .int .i64 4503599627370496]) (by simp [results, Try.results68, go_sem, d4, d5]) rfl ⟨rfl, HB1.out.grown HG2.out (by omega) (fun k hk => by simp at hk; omega)⟩
  · rw [if_neg hab]
    obtain ⟨res, hres⟩ : ∃ p, fb b (F.drop (findS F a)) (-far, far) = p := ⟨_, rfl⟩
    have hfl : findS F a < F.length := by
      have := above_le F a
      unfold findS
      split <;> omega
    have hfi := fun w h => find_any F a lp base w h hs hL h0
    obtain ⟨fr, hfr⟩ : ∃ fr, findS F a = fr := ⟨_, rfl⟩
    rw [hres]
    rw [hfr] at hfi hfl hres
    have HFI := Lib.hid hfi
    have HRES := Lib.hid hres
    clear hs hfi hfr hres
    have hd : decide (b - a ≤ 0) = false := decide_eq_false (by omega)
    go_enter Try.func68, Try.ntmps68
    go_wp2_with fail
    refine (HSL.out _).mono ?_
    rintro e w1 ⟨rfl, hb1⟩
    obtain ⟨W3, hW3⟩ : ∃ W, ((w.alloc (.cells #[.int .i64 a, .int .i64 b] 61)).alloc (.cells #[.int .i64 0, .int .i64 0] 61)).alloc (.cells #[.int .i64 (-4503599627370496), .int .i64 4503599627370496] 61) = W := ⟨_, rfl⟩
    have hs3 : W3.heap.size = b0 + 3 := by rw [← hW3, ← hb0]; simp
    have r3 : W3.heap[b0]? = some (.cells #[.int .i64 a, .int .i64 b] 61 (0, 0)) := by rw [← hW3, ← hb0, heap_alloc_old _ _ (by simp; omega), heap_alloc_old _ _ (by simp), heap_alloc_new]
    have r4 : W3.heap[b0 + 1]? = some (.cells #[.int .i64 0, .int .i64 0] 61 (0, 0)) := by rw [← hW3, ← hb0, heap_alloc_old _ _ (by simp)]; exact heap_alloc2_new w _ _
    have r5 : W3.heap[b0 + 1 + 1]? = some (.cells #[.int .i64 (-4503599627370496), .int .i64 4503599627370496] 61 (0, 0)) := by
      have h := heap_alloc_new ((w.alloc (.cells #[.int .i64 a, .int .i64 b] 61)).alloc (.cells #[.int .i64 0, .int .i64 0] 61)) (.cells #[.int .i64 (-4503599627370496), .int .i64 4503599627370496] 61)
      rw [hW3] at h
      simpa [← hb0] using h
    have hB3 : Below w.heap.size w W3 := by rw [← hW3]; exact (((Below.refl _ _).alloc (Nat.le_refl _) _).alloc (by simp) _).alloc (by simp; omega) _
    rw [hW3] at hb1
    have R3 := Lib.hid ((hb1.block b0 (by omega)).trans r3)
    have R4 := Lib.hid ((hb1.block (b0 + 1) (by omega)).trans r4)
    have R5 := Lib.hid ((hb1.block (b0 + 1 + 1) (by omega)).trans r5)
    have HB1 := Lib.hid (Below.onto hb1 hB3)
    have hz1 := hb1.size
    rw [hs3] at hz1
    clear hb1 hB3 r3 r4 r5 hW3 hs3
    have h1 := h.below HB1.out (Nat.le_refl _)
    obtain ⟨v, q1, q2, q3⟩ := h1
    obtain ⟨g, cap, rfl, hcp, hg, hgl⟩ := own_form q3 h0 rfl
    have hlp : lp < w.heap.size := h.lt
    have hgw : g < w.heap.size := by
      obtain ⟨v', p1, p2, p3⟩ := h
      have e := p1.symm.trans ((HB1.out.block lp hlp).symm.trans q1)
      simp at e
      obtain ⟨g', cap', e', _, _, h'⟩ := own_form p3 h0 rfl
      rw [e] at e'
      simp at e'
      omega
    have c0 : w1.cell? ⟨lp, 0, none⟩ = some (.slice (some ⟨g, 0, none⟩) F.length cap) := by rw [cell_of_row w1 lp 0 _ _ (0, 0) q1]; rfl
    have x0 : w1.cell? ⟨b0, 0, none⟩ = some (.int .i64 a) := by rw [cell_of_row w1 b0 0 _ _ (0, 0) R3.out]; rfl
    have HK : Hid (∀ w', Below w1.heap.size w1 w' → (Below w1.heap.size w1 w' ∧ w'.cell? ⟨lp, 0, none⟩ = some (.slice (some ⟨g, 0, none⟩) F.length cap) ∧ w'.cell? ⟨b0, 0, none⟩ = some (.int .i64 a))) :=
      fun w' hB => ⟨hB, (hB.cell (p := ⟨lp, 0, none⟩) (show lp < _ by omega)).trans c0, (hB.cell (p := ⟨b0, 0, none⟩) (show b0 < _ by omega)).trans x0⟩
    have HL1 := Lib.hid (h.below HB1.out (Nat.le_refl _))
    have hSH := shs_of_own q3
    have HSH := Lib.hid hSH
    have HQ1 := Lib.hid q1
    have HLW := Lib.hid h
    clear h q1 q3 c0 x0 hSH
    obtain ⟨r, hr⟩ : ∃ r, F.length - fr = r := ⟨_, rfl⟩
    have hr1 : fr + r = F.length := by omega
    have hfc : ¬ cap = fr := by omega
    have hfl' : fr ≤ F.length := by omega
    go_wp2_with fail
    go_region_held3 (fun w' => Below w1.heap.size w1 w' ∧ w'.cell? ⟨lp, 0, none⟩ = some (.slice (some ⟨g, 0, none⟩) F.length cap) ∧ w'.cell? ⟨b0, 0, none⟩ = some (.int .i64 a)) (first | exact HK.out _ (Below.refl _ _) | exact HK.out _ ((Below.refl _ _).drew) | exact HK.out _ (Below.onto HBx.out (And.left (by assumption)))) (first
      | ((with_reducible refine (HFI.out _ (HL1.out.below (And.left (by assumption)) (Nat.le_refl _))).mono ?_); rintro e wx ⟨rfl, hbx⟩; have HBx := Lib.hid hbx; clear hbx))
    rename_i hH
    have hW : Below w1.heap.size w1 wx := hH.1
    have hA0 : BInv F a b b0 fr res w 0 wx := ⟨HB1.out.trans (hW.mono HB1.out.size), (hW.block b0 (by omega)).trans R3.out, (hW.block (b0 + 1) (by omega)).trans R4.out, by have := hW.size; omega, (-far, far), (hW.block (b0 + 1 + 1) (by omega)).trans R5.out, HRES.out⟩
    have hSx : Shs wx g 0 F := HSH.out.below hW hgl
    have HA0 := Lib.hid hA0
    have HS0 := Lib.hid hSx
    have hSw : Shs w g 0 F := by
      obtain ⟨v', p1, p2, p3⟩ := HLW.out
      have e := p1.symm.trans ((HB1.out.block lp hlp).symm.trans HQ1.out)
      simp at e
      subst e
      exact shs_of_own p3
    have HSW : Hid (∀ wr, Below w.heap.size w wr → Shs wr g 0 F) := fun wr hB => hSw.below hB hgw
    have HX := Lib.hid hr1
    clear hSw hA0 hSx hW hH HBx hr hfc hr1
    go_wp2_with fail
    go_loopw [23] (fun x wr => ∃ i : Nat, i ≤ r ∧ x = .int .i64 i ∧ Hid (BInv F a b b0 fr res w i wr)) (fun x _ => r - (intOf x).toNat)
    case atStart => exact ⟨0, by omega, rfl, HA0⟩
    case round =>
      obtain ⟨i, hi, rfl, hA⟩ := hrel
      obtain ⟨p1, p2, p3, p4, p, p5, p6⟩ := hA.out
      have e1 := cell_of_row wr b0 1 _ _ (0, 0) p2
      have o0 := cell_of_row wr (b0 + 1 + 1) 0 _ _ (0, 0) p5
      have o1 := cell_of_row wr (b0 + 1 + 1) 1 _ _ (0, 0) p5
      by_cases hlt : i < r
      · have hk : fr + i < F.length := by have := HX.out; omega
        obtain ⟨u0, u1, u2⟩ := (HSW.out wr p1).cells hk
        rw [fb_more b F (fr + i) p hk] at p6
        have P6 := Lib.hid p6
        have P3 := Lib.hid p3
        have P5 := Lib.hid p5
        clear p6 p3 p5
        simp only [Nat.zero_add, Nat.add_mul] at u0 u1 u2
        generalize (shAt F (fr + i)).t = st at *
        generalize (shAt F (fr + i)).l = sl at *
        generalize (shAt F (fr + i)).r = sr at *
        have z0 : b0 < wr.heap.size := by omega
        have z1 : b0 + 1 < wr.heap.size := by omega
        have z2 : b0 + 1 + 1 < wr.heap.size := by omega
        have P3' := Lib.hid ((heap_alloc_old wr (.cells #[.int .i64 st, .int .i64 sl, .int .i64 sr] 162) z1).trans P3.out)
        have P5' := Lib.hid ((heap_alloc_old wr (.cells #[.int .i64 st, .int .i64 sl, .int .i64 sr] 162) z2).trans P5.out)
        have P2' := Lib.hid ((heap_alloc_old wr (.cells #[.int .i64 st, .int .i64 sl, .int .i64 sr] 162) z0).trans p2)
        have hB' := Lib.hid (p1.alloc p1.size (.cells #[.int .i64 st, .int .i64 sl, .int .i64 sr] 162))
        have hbs := Lib.hid p1.size
        by_cases hto : b ≤ st
        · have hds : decide (b ≤ st) = true := decide_eq_true hto
          have hp := P6.out
          rw [if_pos hto] at hp
          subst hp
          go_wp2_with (first
            | ((with_reducible refine store_new (dst := none) 162 (.tmp 7) (.tmp 26) wr _ #[.int .i64 st, .int .i64 sl, .int .i64 sr] 162 rfl ?_ ?_ ?_ ?_ ?_ ?_); rfl; rfl; exact shInfo; rfl; (simp [Value.oneCell']))
            | ((with_reducible refine store_row (dst := none) 61 (.tmp 4) (.tmp 40) (b0 + 1) _ #[.int .i64 p.1, .int .i64 p.2] 61 P3'.out ?_ ?_ ?_ ?_ ?_ ?_); rfl; rfl; exact spanInfo; rfl; (simp [Value.oneCell']); intro w2 hw2 hg2 hz2; have HW2 := Lib.hid hw2; have HG2 := Lib.hid hg2; clear hw2 hg2))
          have d4 := cell_of_row w2 (b0 + 1) 0 _ _ (0, 0) HW2.out
          have d5 := cell_of_row w2 (b0 + 1) 1 _ _ (0, 0) HW2.out
          refine bodyPost_ret (v := .agg #[.int .i64 p.1, .int .i64 p.2]) (by simp [results, Try.results68, go_sem, d4, d5]) rfl ⟨rfl, hB'.out.grown HG2.out (by have := hbs.out; simp; omega) (fun k hk => by simp at hk; omega)⟩
        · have hds : decide (b ≤ st) = false := decide_eq_false hto
          have hp := P6.out
          rw [if_neg hto] at hp
          have HP := Lib.hid hp
          clear hp
          go_wp2_with (first
            | ((with_reducible refine store_new (dst := none) 162 (.tmp 7) (.tmp 26) wr _ #[.int .i64 st, .int .i64 sl, .int .i64 sr] 162 rfl ?_ ?_ ?_ ?_ ?_ ?_); rfl; rfl; exact shInfo; rfl; (simp [Value.oneCell'])))
          refine (clip_any p.1 p.2 sl sr _).mono ?_
          rintro e w5 ⟨rfl, hb5⟩
          have hz5 := hb5.size
          simp at hz5
          have P3'' := Lib.hid ((hb5.block (b0 + 1) (by simp; omega)).trans P3'.out)
          have P5'' := Lib.hid ((hb5.block (b0 + 1 + 1) (by simp; omega)).trans P5'.out)
          have P2'' := Lib.hid ((hb5.block b0 (by simp; omega)).trans P2'.out)
          have HB5 := Lib.hid (hB'.out.trans (hb5.mono hB'.out.size))
          clear hb5
          go_wp2_with (first
            | ((with_reducible refine store_row (dst := none) 61 (.tmp 5) (.tmp 38) (b0 + 1 + 1) _ #[.int .i64 (max p.1 sl), .int .i64 (min p.2 sr)] 61 P5''.out ?_ ?_ ?_ ?_ ?_ ?_); rfl; rfl; exact spanInfo; rfl; (simp [Value.oneCell']); intro w2 hw2 hg2 hz2; have HW2 := Lib.hid hw2; have HG2 := Lib.hid hg2; clear hw2 hg2))
          go_roundw
          case rel =>
            refine ⟨i + 1, by omega, by go_num, Lib.hid ⟨HB5.out.grown HG2.out (by omega) (fun k hk => by simp at hk; omega), (HG2.out.block b0 (by omega) (by simp; omega)).trans P2''.out, (HG2.out.block (b0 + 1) (by omega) (by simp)).trans P3''.out, by omega, (max p.1 sl, min p.2 sr), HW2.out, HP.out⟩⟩
          case measure => simp [intOf]; omega
      · have hie : fr + i = F.length := by have := HX.out; omega
        rw [hie, List.drop_length] at p6
        have hp : p = res := p6
        subst hp
        have hbs : w.heap.size ≤ wr.heap.size := p1.size
        have P3 := Lib.hid p3
        have P1 := Lib.hid p1
        have hir : i = r := by omega
        subst hir
        clear p1 p2 p3 p5 p6 hi hlt
        go_wp2_with (first
          | ((with_reducible refine store_row (dst := none) 61 (.tmp 4) (.tmp 40) (b0 + 1) _ #[.int .i64 p.1, .int .i64 p.2] 61 P3.out ?_ ?_ ?_ ?_ ?_ ?_); rfl; rfl; exact spanInfo; rfl; (simp [Value.oneCell']); intro w2 hw2 hg2 hz2; have HW2 := Lib.hid hw2; have HG2 := Lib.hid hg2; clear hw2 hg2))
        have d4 := cell_of_row w2 (b0 + 1) 0 _ _ (0, 0) HW2.out
        have d5 := cell_of_row w2 (b0 + 1) 1 _ _ (0, 0) HW2.out
        refine bodyPost_ret (v := .agg #[.int .i64 p.1, .int .i64 p.2]) (by simp [results, Try.results68, go_sem, d4, d5]) rfl ⟨rfl, P1.out.grown HG2.out hbs (fun k hk => by simp at hk; omega)⟩
end Go.Proofs.Ytecojcdmigmnhaa
