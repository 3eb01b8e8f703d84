/- The law's own functions: Of, Few, begin, speaks. -/
import Derived.Test.YthinaifeifnefaaFx
namespace Go.Proofs.Ythinaifeifnefaa
set_option linter.unusedSimpArgs false
set_option linter.unusedVariables false
open Go.RowKit
set_option maxRecDepth 20000 in
theorem of_any (a b c d : Int) (w : World) : Calls Try.prog 42 #[.agg #[.int .i64 a, .int .i64 b, .int .i64 c, .int .i64 d]] w fun e w' => e = .returned (.agg #[.int .i64 a, .int .i64 b, .int .i64 c, .int .i64 d]) ∧ Below w.heap.size w w' := by
  go_enter Try.func42, Try.ntmps42
  go_wp2
  exact bodyPost_ret (v := .agg #[.int .i64 a, .int .i64 b, .int .i64 c, .int .i64 d]) (by simp [results, Try.results42, go_sem]) rfl ⟨rfl, by (repeat (first | exact Below.refl _ _ | (refine Below.alloc ?_ (by first | omega | (simp; done) | (simp; omega)) _) | (refine Below.on (by assumption) ?_ (by first | omega | (simp; done) | (simp; omega))) | (refine Below.grown ?_ (by assumption) (by first | omega | (simp; done) | (simp; omega)) (by intro k hk; cases hk)) | refine Below.drew ?_))⟩
set_option maxRecDepth 20000 in
set_option maxHeartbeats 4000000 in
theorem few_any (v : Value) (L : List Fo) (m : Int) (w : World) (h : IsFos w v L) (hL : L.length ≤ maxLen) : Calls Try.prog 16 #[v, .int .i64 m] w fun e w' => e = .returned (.bool (fewB L m)) ∧ Below w.heap.size w w' := by
  have HH := Lib.hid h
  obtain ⟨A, cap, rfl, hc, hA⟩ := h
  have HA := Lib.hid hA
  obtain ⟨res, hres⟩ : ∃ r, fewB L m = r := ⟨_, rfl⟩
  rw [hres]
  have HR := Lib.hid hres
  have HL := Lib.hid hL
  unfold maxLen at hL
  clear hres hA hc
  go_enter Try.func16, Try.ntmps16
  go_wp2_with fail
  go_loopw [9] (fun x wr => ∃ i : Nat, i ≤ L.length ∧ x = .int .i64 i ∧ Hid ((∀ j, j < i → smallF (foAt L j) = true) ∧ Below w.heap.size w wr)) (fun x _ => L.length - (intOf x).toNat)
  case atStart => exact ⟨0, by omega, rfl, Lib.hid ⟨fun j hj => by omega, Below.refl _ _⟩⟩
  case round =>
    obtain ⟨i, hi, rfl, hI⟩ := hrel
    by_cases hlt : i < L.length
    · obtain ⟨g, o, rfl, hg, hs⟩ := HA.out (by omega)
      have hbs := hI.out.2.size
      have hcs : wr.rangeAt g (o + i * 5) (foC (foAt L i)) := fun j v hv => (hI.out.2.cell (p := ⟨g, o + i * 5 + j, none⟩) hg).trans (hs i hlt j v hv)
      obtain ⟨u0, u1, u2, u3, u4⟩ := fo_cells hcs
      have hsm : Hid (smallF (foAt L i) = smallR (foAt L i).x0 (foAt L i).y0 (foAt L i).x1 (foAt L i).y1) := Lib.hid rfl
      have hgl : g < wr.heap.size := by omega
      have HBS := Lib.hid hbs
      clear hs hcs hbs
      generalize (foAt L i).s = fs at *
      generalize (foAt L i).x0 = f0 at *
      generalize (foAt L i).y0 = f1 at *
      generalize (foAt L i).x1 = f2 at *
      generalize (foAt L i).y1 = f3 at *
      go_wp2_with (first
        | ((with_reducible refine store_new (dst := none) 45 (.tmp 6) (.tmp 12) wr _ #[.int .i64 fs, .int .i64 f0, .int .i64 f1, .int .i64 f2, .int .i64 f3] 45 rfl ?_ ?_ ?_ ?_ ?_ ?_); rfl; rfl; exact floatInfo; rfl; (simp [Value.oneCell'])))
      refine (small_any f0 f1 f2 f3 _).mono ?_
      rintro e w5 ⟨rfl, hb5⟩
      have hB5 := Lib.hid (Below.onto hb5 ((Below.refl wr.heap.size wr).alloc (Nat.le_refl _) (.cells #[.int .i64 fs, .int .i64 f0, .int .i64 f1, .int .i64 f2, .int .i64 f3] 45)))
      clear hb5
      cases hq : smallR f0 f1 f2 f3 with
      | false =>
        have hr : fewB L m = false := by
          unfold fewB
          rw [Bool.and_eq_false_iff]
          left
          rw [List.all_eq_false]
          refine ⟨L[i], List.getElem_mem hlt, ?_⟩
          rw [← foAt_eq L i hlt, hsm.out, hq]
          simp
        rw [HR.out] at hr
        subst hr
        go_wp2_with fail
        go_ret
        exact ⟨rfl, hI.out.2.trans (hB5.out.mono HBS.out)⟩
      | true =>
        have hI' := Lib.hid (show (∀ j, j < i + 1 → smallF (foAt L j) = true) ∧ Below w.heap.size w w5 from ⟨fun j hj => by
          by_cases e : j = i
          · subst e; rw [hsm.out, hq]
          · exact hI.out.1 j (by omega), hI.out.2.trans (hB5.out.mono HBS.out)⟩)
        clear hq
        go_wp2_with fail
        go_roundw
        case rel => exact ⟨i + 1, by omega, by go_num, hI'⟩
        case measure => simp [intOf]; omega
    · have hir : i = L.length := by omega
      have hr : fewB L m = decide ((L.length : Int) ≤ m) := by
        unfold fewB
        rw [Bool.and_eq_right_iff_imp]
        intro _
        rw [List.all_eq_true]
        intro f hf
        obtain ⟨j, hj, rfl⟩ := List.mem_iff_getElem.1 hf
        rw [← foAt_eq L j hj]
        exact hI.out.1 j (by omega)
      rw [HR.out] at hr
      have hB := Lib.hid hI.out.2
      subst hir
      subst hr
      clear hlt hi hI HR
      go_wp2_with fail
      go_ret
      exact ⟨rfl, hB.out⟩
theorem small_mid {c : Int} (h : smI c = true) : Mid c ∧ -far < c := by
  unfold smI at h
  simp only [decide_eq_true_eq] at h
  unfold Mid far
  omega
theorem smallF_mid {f : Fo} (h : smallF f = true) : (Mid f.x0 ∧ Mid f.y0 ∧ Mid f.x1 ∧ Mid f.y1) ∧ -far < f.y0 ∧ -far < f.y1 := by
  unfold smallF smallR at h
  simp only [Bool.and_eq_true] at h
  obtain ⟨⟨⟨h0, h1⟩, h2⟩, h3⟩ := h
  exact ⟨⟨(small_mid h0).1, (small_mid h1).1, (small_mid h2).1, (small_mid h3).1⟩, (small_mid h1).2, (small_mid h3).2⟩
theorem small_low {L : List Fo} (h : ∀ f ∈ L, smallF f = true) : Lowish L := fun f hf => (smallF_mid (h f hf)).2
theorem shelves_ok {L : List Fo} (h : ∀ f ∈ L, smallF f = true) : ShOk (shelves L) := (shelves_is L (small_low h)).ok
/-- What begin leaves. -/
def BegPost (L : List Fo) (w : World) (e : Ending) (w' : World) : Prop := ∃ lp, e = .returned (.pointer (some ⟨lp, 0, none⟩)) ∧ ListIs w' w.heap.size lp (full (shelves L)) ∧ Below w.heap.size w w'
def GInv (L : List Fo) (lp : Nat) (w : World) (i : Nat) (wr : World) : Prop := ListIs wr w.heap.size lp (full (shelves (L.take i))) ∧ Below w.heap.size w wr
theorem GInv.step {L : List Fo} {lp : Nat} {w wr w' : World} {i : Nat} (hi : i < L.length) (hl : ListIs w' w.heap.size lp (full (addS (shelves (L.take i)) L[i]))) (h : GInv L lp w i wr) (ht : Below w.heap.size wr w') : GInv L lp w (i + 1) w' := by
  refine ⟨?_, h.2.trans ht⟩
  rw [List.take_succ_eq_append_getElem hi, shelves_snoc]
  exact hl
set_option maxRecDepth 20000 in
set_option maxHeartbeats 4000000 in
theorem begin_any (v : Value) (L : List Fo) (w : World) (h : IsFos w v L) (hL : L.length ≤ 100000) (hsm : ∀ f ∈ L, smallF f = true) : Calls Try.prog 17 #[v] w (BegPost L w) := by
  obtain ⟨A, cap, rfl, hc, hA⟩ := h
  have HA := Lib.hid hA
  have HSM := Lib.hid hsm
  clear hA hc hsm
  go_enter Try.func17, Try.ntmps17
  go_wp2_with fail
  refine (new_any w).mono ?_
  rintro e w1 ⟨lp, rfl, hl1, hb1⟩
  have hI0 : GInv L lp w 0 w1 := ⟨hl1, hb1⟩
  have HI0 := Lib.hid hI0
  clear hl1 hb1 hI0
  go_wp2_with fail
  go_loopw [11] (fun x wr => ∃ i : Nat, i ≤ L.length ∧ x = .int .i64 i ∧ Hid (GInv L lp w i wr)) (fun x _ => L.length - (intOf x).toNat)
  case atStart => exact ⟨0, by omega, rfl, HI0⟩
  case round =>
    obtain ⟨i, hi, rfl, hI⟩ := hrel
    by_cases hlt : i < L.length
    · obtain ⟨g, o, rfl, hg, hs⟩ := HA.out (by omega)
      obtain ⟨base, hbase⟩ : ∃ b, w.heap.size = b := ⟨_, rfl⟩
      have hbs := hI.out.2.size
      have hcs : wr.rangeAt g (o + i * 5) (foC (foAt L i)) := fun j v hv => (hI.out.2.cell (p := ⟨g, o + i * 5 + j, none⟩) hg).trans (hs i hlt j v hv)
      obtain ⟨u0, u1, u2, u3, u4⟩ := fo_cells hcs
      have hgl : g < wr.heap.size := by omega
      have hsf := HSM.out L[i] (List.getElem_mem hlt)
      obtain ⟨⟨m0, m1, m2, m3⟩, l0, l1⟩ := smallF_mid hsf
      have hok := shelves_ok (L := L.take i) (fun f hf => HSM.out f (List.mem_of_mem_take hf))
      have hll := shelves_length (L.take i)
      rw [List.length_take] at hll
      obtain ⟨wa, hwa⟩ : ∃ wa, wr.alloc (.cells #[.int .i64 (foAt L i).s, .int .i64 (foAt L i).x0, .int .i64 (foAt L i).y0, .int .i64 (foAt L i).x1, .int .i64 (foAt L i).y1] 45) = wa := ⟨_, rfl⟩
      have hza : wa.heap.size = wr.heap.size + 1 := by rw [← hwa]; simp
      have hba : Below wr.heap.size wr wa := by rw [← hwa]; exact (Below.refl _ _).alloc (Nat.le_refl _) _
      have hla : ListIs wa w.heap.size lp (full (shelves (L.take i))) := hI.out.1.below hba (Nat.le_refl _)
      have hnew : wa.heap[wr.heap.size]? = some (.cells #[.int .i64 (foAt L i).s, .int .i64 (foAt L i).x0, .int .i64 (foAt L i).y0, .int .i64 (foAt L i).x1, .int .i64 (foAt L i).y1] 45 (0, 0)) := by rw [← hwa]; exact heap_alloc_new wr _
      have hadd : ∀ wx, Below wa.drew.heap.size wa.drew wx → Calls Try.prog 51 #[.pointer (some ⟨lp, 0, none⟩), .int .i64 (foAt L i).s, .agg #[.int .i64 (foAt L i).x0, .int .i64 (foAt L i).y0, .int .i64 (foAt L i).x1, .int .i64 (foAt L i).y1]] wx (AddPost (shelves (L.take i)) L[i] w.heap.size lp wx) := by
        rw [foAt_eq L i hlt]
        intro wx hbx
        have hx : ListIs wx w.heap.size lp (full (shelves (L.take i))) := hla.below (n := wa.heap.size) ⟨hbx.os, hbx.tape, hbx.output, hbx.size, hbx.block⟩ (Nat.le_refl _)
        have hz : wa.heap.size ≤ wx.heap.size := hbx.size
        exact add_any _ _ _ _ wx hx hok (by omega) m0 m1 m2 m3 l0 l1 (by omega)
      obtain ⟨bf, hbf⟩ : ∃ b, wr.heap.size = b := ⟨_, rfl⟩
      have hblp : bf ≠ lp := by have := hI.out.1.lt; omega
      have hk : ∀ w', ShTouch wa w' w.heap.size lp → (ShTouch wa w' w.heap.size lp ∧ w'.cell? ⟨bf, 0, none⟩ = some (.int .i64 (foAt L i).s) ∧ w'.cell? ⟨bf, 1, none⟩ = some (.int .i64 (foAt L i).x0) ∧ w'.cell? ⟨bf, 2, none⟩ = some (.int .i64 (foAt L i).y0) ∧ w'.cell? ⟨bf, 3, none⟩ = some (.int .i64 (foAt L i).x1) ∧ w'.cell? ⟨bf, 4, none⟩ = some (.int .i64 (foAt L i).y1)) := by
        intro w' hT
        rw [hbf] at hnew
        have hb := (hT.2 bf (by omega) (.inr ⟨hblp, fun C f e => by
          have := hnew.symm.trans e
          injection this with this
          injection this with _ h2
          exact absurd h2 (by decide)⟩)).trans hnew
        exact ⟨hT, cell_of_row w' bf 0 _ _ (0, 0) hb, cell_of_row w' bf 1 _ _ (0, 0) hb, cell_of_row w' bf 2 _ _ (0, 0) hb, cell_of_row w' bf 3 _ _ (0, 0) hb, cell_of_row w' bf 4 _ _ (0, 0) hb⟩
      have HK := Lib.hid hk
      have HADD := Lib.hid hadd
      have HWA := Lib.hid hwa
      have HBA := Lib.hid hba
      have HZA := Lib.hid hza
      have HBS := Lib.hid hbs
      have HBF := Lib.hid hbf
      clear hk hadd hwa hba hza hbs hbf hs hcs hla hnew hll hok m0 m1 m2 m3 l0 l1 hsf hblp
      generalize (foAt L i).s = fs at *
      generalize (foAt L i).x0 = f0 at *
      generalize (foAt L i).y0 = f1 at *
      generalize (foAt L i).x1 = f2 at *
      generalize (foAt L i).y1 = f3 at *
      go_wp2_with (first
        | ((with_reducible refine store_new (dst := none) 45 (.tmp 5) (.tmp 14) wr _ #[.int .i64 fs, .int .i64 f0, .int .i64 f1, .int .i64 f2, .int .i64 f3] 45 rfl ?_ ?_ ?_ ?_ ?_ ?_); rfl; rfl; exact floatInfo; rfl; (simp [Value.oneCell'])))
      rw [HWA.out, HBF.out]
      go_region_held3 (fun w' => ShTouch wa w' w.heap.size lp ∧ w'.cell? ⟨bf, 0, none⟩ = some (.int .i64 fs) ∧ w'.cell? ⟨bf, 1, none⟩ = some (.int .i64 f0) ∧ w'.cell? ⟨bf, 2, none⟩ = some (.int .i64 f1) ∧ w'.cell? ⟨bf, 3, none⟩ = some (.int .i64 f2) ∧ w'.cell? ⟨bf, 4, none⟩ = some (.int .i64 f3)) (first | exact HK.out _ (ShTouch.refl _ _ _) | exact HK.out _ (ShTouch.refl _ _ _).drew | exact HK.out _ (ShTouch.trans (And.left (by assumption)) HT.out)) (first
        | ((with_reducible refine (of_any f0 f1 f2 f3 _).mono ?_); rintro e wx ⟨rfl, hbx⟩; have HBX := Lib.hid hbx; have HT := Lib.hid (ShTouch.of_below (base := w.heap.size) (lp := lp) hbx); clear hbx)
        | ((with_reducible refine (HADD.out _ HBX.out).mono ?_); rintro e wx ⟨rfl, hl, ht⟩; have HLX := Lib.hid hl; have HT := Lib.hid ht; clear hl ht))
      rename_i hH
      have hG := Lib.hid (GInv.step hlt HLX.out hI.out (HBA.out.mono HBS.out |>.trans (hH.1.below (by have := HZA.out; have := HBS.out; omega))))
      clear hH
      go_wp2_with fail
      go_roundw
      case rel => exact ⟨i + 1, by omega, by go_num, hG⟩
      case measure => simp [intOf]; omega
    · have hir : i = L.length := by omega
      subst hir
      have hl := hI.out.1
      rw [List.take_length] at hl
      have HL := Lib.hid hl
      have HB := Lib.hid hI.out.2
      clear hl hlt hi hI
      go_wp2_with fail
      go_ret
      exact ⟨lp, rfl, HL.out, HB.out⟩
theorem spF0 (v0 v1 : Value) (w : World) : (Instr.field 38 (.agg #[v0, v1]) 0).run Try.prog w = .ok v0 w := by kernel_rfl
theorem spF1 (v0 v1 : Value) (w : World) : (Instr.field 38 (.agg #[v0, v1]) 1).run Try.prog w = .ok v1 w := by kernel_rfl
/-- The list of floats of the document's example. -/
theorem speaks_list : full (addS [] ⟨1, 0, 2, 3, 5⟩) = [⟨-far, -far, far⟩, ⟨2, 3, far⟩, ⟨5, -far, far⟩] := rfl
theorem speaks_band : fbB (full (addS [] ⟨1, 0, 2, 3, 5⟩)) 0 9 = (3, 4503599627370496) := by decide
set_option maxRecDepth 20000 in
set_option maxHeartbeats 4000000 in
theorem speaks_any (w : World) : Calls Try.prog 15 #[] w fun e w' => e = .returned (.bool true) ∧ Below w.heap.size w w' := by
  have had := fun base lp w h hb => add_any [] ⟨1, 0, 2, 3, 5⟩ base lp w h ShOk.nil (by decide) (by unfold Mid; decide) (by unfold Mid; decide) (by unfold Mid; decide) (by unfold Mid; decide) (by decide) (by decide) hb
  have hok : ShOk (addS [] ⟨1, 0, 2, 3, 5⟩) := addS_ok ShOk.nil (by decide) (by decide)
  have hba := fun base lp w h => band_any (full (addS [] ⟨1, 0, 2, 3, 5⟩)) 0 9 base lp w h (full_asc hok) (by decide) (by decide) (by unfold Mid; decide) (by unfold Mid; decide)
  have hsh := fun base lp w h => shelves_any (full (addS [] ⟨1, 0, 2, 3, 5⟩)) base lp w h (by decide) (by decide)
  have hlen : (full (addS [] ⟨1, 0, 2, 3, 5⟩)).length = 3 := by decide
  unfold BandPost at hba
  rw [speaks_band] at hba
  unfold ShelvesPost at hsh
  rw [hlen] at hsh
  obtain ⟨F, hF⟩ : ∃ F, full (addS [] ⟨1, 0, 2, 3, 5⟩) = F := ⟨_, rfl⟩
  unfold AddPost at had
  rw [hF] at had hba hsh
  have HAD := Lib.hid had
  have HBA := Lib.hid hba
  have HSH := Lib.hid hsh
  clear had hok hba hsh hlen hF
  have hfd := fun w => spF0 (.int .i64 3) (.int .i64 4503599627370496) w
  go_enter Try.func15, Try.ntmps15
  go_wp2_with fail
  refine (new_any w).mono ?_
  rintro e w1 ⟨lp, rfl, hl1, hb1⟩
  have HL1 := Lib.hid hl1
  have HB1 := Lib.hid hb1
  clear hl1 hb1
  go_wp2_with fail
  refine (HAD.out w.heap.size lp w1 HL1.out HB1.out.size).mono ?_
  rintro e w2 ⟨rfl, hl2, ht2⟩
  have HL2 := Lib.hid hl2
  have HB2 := Lib.hid (HB1.out.trans (ht2.below HB1.out.size))
  clear hl2 ht2
  go_wp2_with fail
  refine (HSH.out w.heap.size lp w2 HL2.out).mono ?_
  rintro e w3 ⟨v3, rfl, ho3, hb3⟩
  obtain ⟨g3, cap3, rfl, hc3, hg3, hl3⟩ := own_form ho3 (by omega) rfl
  have HL3 := Lib.hid (HL2.out.below hb3 (Nat.le_refl _))
  have HB3 := Lib.hid (HB2.out.trans (hb3.mono HB2.out.size))
  clear ho3 hb3
  go_wp2_with fail
  refine (HBA.out w.heap.size lp w3 HL3.out).mono ?_
  rintro e w4 ⟨rfl, hb4⟩
  have HB4 := Lib.hid (HB3.out.trans (hb4.mono HB3.out.size))
  clear hb4
  go_wp2_with fail
  go_ret
  exact ⟨rfl, HB4.out⟩
end Go.Proofs.Ythinaifeifnefaa
