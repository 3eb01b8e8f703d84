/- Spaces: Sides, Begin. -/
import Derived.Test.YtecojcdmigmnhaaSpr
namespace Go.Proofs.Ytecojcdmigmnhaa
set_option linter.unusedSimpArgs false
set_option linter.unusedVariables false
open Go.RowKit
set_option maxRecDepth 20000 in
set_option maxHeartbeats 4000000 in
theorem sides_any (v : Value) (L : List Fo) (w : World) (h : IsFos w v L) (hL : L.length ≤ maxLen) : Calls Try.prog 17 #[v] w fun e w' => e = .returned (.bool (sided L)) ∧ Below w.heap.size w w' := by
  obtain ⟨A, cap, rfl, hc, hA⟩ := id h
  have HA := Lib.hid hA
  obtain ⟨res, hres⟩ : ∃ r, sided L = r := ⟨_, rfl⟩
  rw [hres]
  have HR := Lib.hid hres
  unfold maxLen at hL
  clear hres hA hc h
  go_enter Try.func17, Try.ntmps17
  go_wp2_with fail
  go_loopw [7] (fun x wr => ∃ i : Nat, i ≤ L.length ∧ x = .int .i64 i ∧ Hid ((∀ j, j < i → (foAt L j).s = 1 ∨ (foAt L j).s = 2) ∧ Below w.heap.size w wr)) (fun x _ => L.length - (intOf x).toNat)
  case atStart => exact ⟨0, by omega, rfl, Lib.hid ⟨fun j hj => by omega, Below.refl _ _⟩⟩
  case round =>
    obtain ⟨i, hi, rfl, hI⟩ := hrel
    by_cases hlt : i < L.length
    · obtain ⟨g, o, rfl, hg, hs⟩ := HA.out (by omega)
      have hbs := hI.out.2.size
      have hcs : wr.rangeAt g (o + i * 5) (foC (foAt L i)) := fun j v hv => (hI.out.2.cell (p := ⟨g, o + i * 5 + j, none⟩) hg).trans (hs i hlt j v hv)
      obtain ⟨u0, u1, u2, u3, u4⟩ := fo_cells hcs
      have hgl : g < wr.heap.size := by omega
      have HBS := Lib.hid hbs
      have hcase : (((foAt L i).s != 1) = false ∧ ((foAt L i).s = 1 ∨ (foAt L i).s = 2)) ∨ (((foAt L i).s != 1) = true ∧ ((foAt L i).s != 2) = false ∧ ((foAt L i).s = 1 ∨ (foAt L i).s = 2)) ∨ (((foAt L i).s != 1) = true ∧ ((foAt L i).s != 2) = true ∧ ¬ ((foAt L i).s = 1 ∨ (foAt L i).s = 2)) := by
        by_cases h1 : (foAt L i).s = 1
        · left; exact ⟨by simp [h1], .inl h1⟩
        · right
          by_cases h2 : (foAt L i).s = 2
          · left; exact ⟨by simp [h1], by simp [h2], .inr h2⟩
          · right; exact ⟨by simp [h1], by simp [h2], by omega⟩
      have hno : ¬ ((foAt L i).s = 1 ∨ (foAt L i).s = 2) → sided L = false := fun hn => by
        unfold sided
        rw [List.all_eq_false]
        exact ⟨L[i], List.getElem_mem hlt, by rw [← foAt_eq L i hlt]; simpa using hn⟩
      have hyes : ((foAt L i).s = 1 ∨ (foAt L i).s = 2) → ∀ j, j < i + 1 → (foAt L j).s = 1 ∨ (foAt L j).s = 2 := fun hy j hj => by
        by_cases e : j = i
        · rw [e]; exact hy
        · exact hI.out.1 j (by omega)
      rw [HR.out] at hno
      have HNO := Lib.hid hno
      have HYES := Lib.hid hyes
      clear hs hcs hbs hno hyes
      have HB := Lib.hid hI.out.2
      rcases hcase with ⟨d1, hy⟩ | ⟨d1, d2, hy⟩ | ⟨d1, d2, hn⟩
      · have HY := Lib.hid (HYES.out hy)
        clear hy HYES HNO hI
        generalize (foAt L i).s = fs at *
        generalize (foAt L i).x0 = f0 at *
        generalize (foAt L i).y0 = f1 at *
        generalize (foAt L i).x1 = f2 at *
        generalize (foAt L i).y1 = f3 at *
        go_wp2_with (first
          | ((with_reducible refine store_new (dst := none) 49 (.tmp 4) (.tmp 10) wr _ #[.int .i64 fs, .int .i64 f0, .int .i64 f1, .int .i64 f2, .int .i64 f3] 49 rfl ?_ ?_ ?_ ?_ ?_ ?_); rfl; rfl; exact floatInfo; rfl; (simp [Value.oneCell'])))
        go_roundw
        case rel => exact ⟨i + 1, by omega, by go_num, Lib.hid ⟨HY.out, HB.out.alloc HBS.out _⟩⟩
        case measure => simp [intOf]; omega
      · have HY := Lib.hid (HYES.out hy)
        clear hy HYES HNO hI
        generalize (foAt L i).s = fs at *
        generalize (foAt L i).x0 = f0 at *
        generalize (foAt L i).y0 = f1 at *
        generalize (foAt L i).x1 = f2 at *
        generalize (foAt L i).y1 = f3 at *
        go_wp2_with (first
          | ((with_reducible refine store_new (dst := none) 49 (.tmp 4) (.tmp 10) wr _ #[.int .i64 fs, .int .i64 f0, .int .i64 f1, .int .i64 f2, .int .i64 f3] 49 rfl ?_ ?_ ?_ ?_ ?_ ?_); rfl; rfl; exact floatInfo; rfl; (simp [Value.oneCell'])))
        go_roundw
        case rel => exact ⟨i + 1, by omega, by go_num, Lib.hid ⟨HY.out, HB.out.alloc HBS.out _⟩⟩
        case measure => simp [intOf]; omega
      · have hr := HNO.out hn
        subst hr
        clear hn HYES HNO HR hI
        generalize (foAt L i).s = fs at *
        generalize (foAt L i).x0 = f0 at *
        generalize (foAt L i).y0 = f1 at *
        generalize (foAt L i).x1 = f2 at *
        generalize (foAt L i).y1 = f3 at *
        go_wp2_with (first
          | ((with_reducible refine store_new (dst := none) 49 (.tmp 4) (.tmp 10) wr _ #[.int .i64 fs, .int .i64 f0, .int .i64 f1, .int .i64 f2, .int .i64 f3] 49 rfl ?_ ?_ ?_ ?_ ?_ ?_); rfl; rfl; exact floatInfo; rfl; (simp [Value.oneCell'])))
        go_ret
        exact ⟨rfl, HB.out.alloc HBS.out _⟩
    · have hir : i = L.length := by omega
      have hr : sided L = true := by
        unfold sided
        rw [List.all_eq_true]
        intro f hf
        obtain ⟨j, hj, rfl⟩ := List.mem_iff_getElem.1 hf
        rw [← foAt_eq L j hj]
        simpa using hI.out.1 j (by omega)
      rw [HR.out] at hr
      have hB := Lib.hid hI.out.2
      subst hir
      subst hr
      clear hlt hi hI HR
      go_wp2_with fail
      go_ret
      exact ⟨rfl, hB.out⟩
def BegSpPost (L : List Fo) (w : World) (e : Ending) (w' : World) : Prop := ∃ sp, e = .returned (.pointer (some ⟨sp, 0, none⟩)) ∧ SpaceIs w' w.heap.size sp L ∧ Below w.heap.size w w'
def SgInv (L : List Fo) (sp : Nat) (w : World) (i : Nat) (wr : World) : Prop := SpaceIs wr w.heap.size sp (L.take i) ∧ Below w.heap.size w wr
theorem SgInv.step {L : List Fo} {sp : Nat} {w wr w' : World} {i : Nat} (hi : i < L.length) (hl : SpaceIs w' w.heap.size sp (L.take i ++ [L[i]])) (h : SgInv L sp w i wr) (ht : Below w.heap.size wr w') : SgInv L sp w (i + 1) w' := by
  refine ⟨?_, h.2.trans ht⟩
  rw [List.take_succ_eq_append_getElem hi]
  exact hl
theorem spok_small {L : List Fo} (h : ∀ f ∈ L, smallF f = true) (hl : L.length ≤ 100000) : SpOk L := ⟨small_low h, hl⟩
set_option maxRecDepth 20000 in
set_option maxHeartbeats 4000000 in
theorem begin10_any (v : Value) (L : List Fo) (w : World) (h : IsFos w v L) (hL : L.length ≤ 100000) (hsm : ∀ f ∈ L, smallF f = true) (hsd : ∀ f ∈ L, f.s = 1 ∨ f.s = 2) : Calls Try.prog 18 #[v] w (BegSpPost L w) := by
  obtain ⟨A, cap, rfl, hc, hA⟩ := h
  have HA := Lib.hid hA
  have HSM := Lib.hid hsm
  have HSD := Lib.hid hsd
  clear hA hc hsm hsd
  go_enter Try.func18, Try.ntmps18
  go_wp2_with fail
  refine (spnew_any w).mono ?_
  rintro e w1 ⟨sp, rfl, hl1, hb1⟩
  have hI0 : SgInv L sp w 0 w1 := ⟨hl1, hb1⟩
  have HI0 := Lib.hid hI0
  clear hl1 hb1 hI0
  go_wp2_with fail
  go_loopw [11] (fun x wr => ∃ i : Nat, i ≤ L.length ∧ x = .int .i64 i ∧ Hid (SgInv L sp w i wr)) (fun x _ => L.length - (intOf x).toNat)
  case atStart => exact ⟨0, by omega, rfl, HI0⟩
  case round =>
    obtain ⟨i, hi, rfl, hI⟩ := hrel
    by_cases hlt : i < L.length
    · obtain ⟨g, o, rfl, hg, hs⟩ := HA.out (by omega)
      have hbs := hI.out.2.size
      have hcs : wr.rangeAt g (o + i * 5) (foC (foAt L i)) := fun j v hv => (hI.out.2.cell (p := ⟨g, o + i * 5 + j, none⟩) hg).trans (hs i hlt j v hv)
      obtain ⟨u0, u1, u2, u3, u4⟩ := fo_cells hcs
      have hgl : g < wr.heap.size := by omega
      have hsf := HSM.out L[i] (List.getElem_mem hlt)
      obtain ⟨⟨m0, m1, m2, m3⟩, l0, l1⟩ := smallF_mid hsf
      have hsi := HSD.out L[i] (List.getElem_mem hlt)
      have hok := shelves_ok (L := L.take i) (fun f hf => HSM.out f (List.mem_of_mem_take hf))
      have hll : (L.take i).length ≤ 100000 := by rw [List.length_take]; omega
      obtain ⟨wa, hwa⟩ : ∃ wa, wr.alloc (.cells #[.int .i64 (foAt L i).s, .int .i64 (foAt L i).x0, .int .i64 (foAt L i).y0, .int .i64 (foAt L i).x1, .int .i64 (foAt L i).y1] 49) = wa := ⟨_, rfl⟩
      have hza : wa.heap.size = wr.heap.size + 1 := by rw [← hwa]; simp
      have hba : Below wr.heap.size wr wa := by rw [← hwa]; exact (Below.refl _ _).alloc (Nat.le_refl _) _
      have hla : SpaceIs wa w.heap.size sp (L.take i) := hI.out.1.below hba (Nat.le_refl _)
      have hnew : wa.heap[wr.heap.size]? = some (.cells #[.int .i64 (foAt L i).s, .int .i64 (foAt L i).x0, .int .i64 (foAt L i).y0, .int .i64 (foAt L i).x1, .int .i64 (foAt L i).y1] 49 (0, 0)) := by rw [← hwa]; exact heap_alloc_new wr _
      have hadd : ∀ wx, Below wa.drew.heap.size wa.drew wx → Calls Try.prog 25 #[.pointer (some ⟨sp, 0, none⟩), .int .i64 (foAt L i).s, .agg #[.int .i64 (foAt L i).x0, .int .i64 (foAt L i).y0, .int .i64 (foAt L i).x1, .int .i64 (foAt L i).y1]] wx (PutPost (L.take i) L[i] w.heap.size sp wx) := by
        rw [foAt_eq L i hlt]
        intro wx hbx
        have hx : SpaceIs wx w.heap.size sp (L.take i) := hla.below (n := wa.heap.size) ⟨hbx.os, hbx.tape, hbx.output, hbx.size, hbx.block⟩ (Nat.le_refl _)
        have hz : wa.heap.size ≤ wx.heap.size := hbx.size
        exact put_any _ _ _ _ wx hx hok hll m0 m1 m2 m3 l0 l1 hsi (by omega)
      obtain ⟨bf, hbf⟩ : ∃ b, wr.heap.size = b := ⟨_, rfl⟩
      have hblp : bf ≠ sp := by have := hI.out.1.lt; omega
      have hk : ∀ w', SpTouch wa w' w.heap.size sp → (SpTouch wa w' w.heap.size sp ∧ w'.cell? ⟨bf, 0, none⟩ = some (.int .i64 (foAt L i).s) ∧ w'.cell? ⟨bf, 1, none⟩ = some (.int .i64 (foAt L i).x0) ∧ w'.cell? ⟨bf, 2, none⟩ = some (.int .i64 (foAt L i).y0) ∧ w'.cell? ⟨bf, 3, none⟩ = some (.int .i64 (foAt L i).x1) ∧ w'.cell? ⟨bf, 4, none⟩ = some (.int .i64 (foAt L i).y1)) := by
        intro w' hT
        rw [hbf] at hnew
        have hb := (hT.2 bf (by omega) (.inr ⟨hblp, fun ⟨C, f, e⟩ => by
          rcases e with e | e | e
          all_goals
            have := hnew.symm.trans e
            injection this with this
            injection this with _ h2
            exact absurd h2 (by decide)⟩)).trans hnew
        exact ⟨hT, cell_of_row w' bf 0 _ _ (0, 0) hb, cell_of_row w' bf 1 _ _ (0, 0) hb, cell_of_row w' bf 2 _ _ (0, 0) hb, cell_of_row w' bf 3 _ _ (0, 0) hb, cell_of_row w' bf 4 _ _ (0, 0) hb⟩
      have HK := Lib.hid hk
      have HADD := Lib.hid hadd
      have HWA := Lib.hid hwa
      have HBA := Lib.hid hba
      have HZA := Lib.hid hza
      have HBS := Lib.hid hbs
      have HBF := Lib.hid hbf
      clear hk hadd hwa hba hza hbs hbf hs hcs hla hnew hll hok m0 m1 m2 m3 l0 l1 hsf hblp hsi
      generalize (foAt L i).s = fs at *
      generalize (foAt L i).x0 = f0 at *
      generalize (foAt L i).y0 = f1 at *
      generalize (foAt L i).x1 = f2 at *
      generalize (foAt L i).y1 = f3 at *
      go_wp2_with (first
        | ((with_reducible refine store_new (dst := none) 49 (.tmp 5) (.tmp 14) wr _ #[.int .i64 fs, .int .i64 f0, .int .i64 f1, .int .i64 f2, .int .i64 f3] 49 rfl ?_ ?_ ?_ ?_ ?_ ?_); rfl; rfl; exact floatInfo; rfl; (simp [Value.oneCell'])))
      rw [HWA.out, HBF.out]
      go_region_held3 (fun w' => SpTouch wa w' w.heap.size sp ∧ w'.cell? ⟨bf, 0, none⟩ = some (.int .i64 fs) ∧ w'.cell? ⟨bf, 1, none⟩ = some (.int .i64 f0) ∧ w'.cell? ⟨bf, 2, none⟩ = some (.int .i64 f1) ∧ w'.cell? ⟨bf, 3, none⟩ = some (.int .i64 f2) ∧ w'.cell? ⟨bf, 4, none⟩ = some (.int .i64 f3)) (first | exact HK.out _ (SpTouch.refl _ _ _) | exact HK.out _ (SpTouch.refl _ _ _).drew | exact HK.out _ (SpTouch.trans (And.left (by assumption)) HT.out)) (first
        | ((with_reducible refine (of_any f0 f1 f2 f3 _).mono ?_); rintro e wx ⟨rfl, hbx⟩; have HBX := Lib.hid hbx; have HT := Lib.hid (SpTouch.of_below (base := w.heap.size) (sp := sp) hbx); clear hbx)
        | ((with_reducible refine (HADD.out _ HBX.out).mono ?_); rintro e wx ⟨rfl, hl, ht⟩; have HLX := Lib.hid hl; have HT := Lib.hid ht; clear hl ht))
      rename_i hH
      have hG := Lib.hid (SgInv.step hlt HLX.out hI.out (HBA.out.mono HBS.out |>.trans (hH.1.below (by have := HZA.out; have := HBS.out; omega))))
      clear hH
      go_wp2_with fail
      go_roundw
      case rel => exact ⟨i + 1, by omega, by go_num, hG⟩
      case measure => simp [intOf]; omega
    · have hir : i = L.length := by omega
      subst hir
      have hl := hI.out.1
      rw [List.take_length] at hl
      have HL := Lib.hid hl
      have HB := Lib.hid hI.out.2
      clear hl hlt hi hI
      go_wp2_with fail
      go_ret
      exact ⟨sp, rfl, HL.out, HB.out⟩
end Go.Proofs.Ytecojcdmigmnhaa
