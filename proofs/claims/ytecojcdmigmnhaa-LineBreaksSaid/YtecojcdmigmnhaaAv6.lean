/- rect.both, Common, Meet. -/
import Derived.Test.YtecojcdmigmnhaaRo
import Derived.Test.YtecojcdmigmnhaaRw2
namespace Go.Proofs.Ytecojcdmigmnhaa
set_option linter.unusedSimpArgs false
set_option linter.unusedVariables false
open Go.RowKit
def RectPost (x0 y0 x1 y1 : Int) (w : World) (e : Ending) (w' : World) : Prop := e = .returned (.agg #[.int .i64 x0, .int .i64 y0, .int .i64 x1, .int .i64 y1]) ∧ Below w.heap.size w w'
set_option maxRecDepth 20000 in
set_option maxHeartbeats 4000000 in
theorem both_any (x0 y0 x1 y1 u0 v0 u1 v1 : Int) (w : World) : Calls Try.prog 102 #[.func (.func 67) #[] #[], .agg #[.int .i64 x0, .int .i64 y0, .int .i64 x1, .int .i64 y1], .agg #[.int .i64 u0, .int .i64 v0, .int .i64 u1, .int .i64 v1]] w (RectPost (max x0 u0) (max y0 v0) (min x1 u1) (min y1 v1) w) := by
  obtain ⟨b0, hb0⟩ : ∃ b, w.heap.size = b := ⟨_, rfl⟩
  obtain ⟨W3, hW3⟩ : ∃ W, ((w.alloc (.cells #[.int .i64 x0, .int .i64 y0, .int .i64 x1, .int .i64 y1] 52)).alloc (.cells #[.int .i64 u0, .int .i64 v0, .int .i64 u1, .int .i64 v1] 52)).alloc (.cells #[.int .i64 0, .int .i64 0, .int .i64 0, .int .i64 0] 52) = W := ⟨_, rfl⟩
  have hs3 : W3.heap.size = b0 + 3 := by rw [← hW3, ← hb0]; simp
  have r1 : W3.heap[b0]? = some (.cells #[.int .i64 x0, .int .i64 y0, .int .i64 x1, .int .i64 y1] 52 (0, 0)) := by rw [← hW3, ← hb0, heap_alloc_old _ _ (by simp; omega), heap_alloc_old _ _ (by simp), heap_alloc_new]
  have r2 : W3.heap[b0 + 1]? = some (.cells #[.int .i64 u0, .int .i64 v0, .int .i64 u1, .int .i64 v1] 52 (0, 0)) := by rw [← hW3, ← hb0, heap_alloc_old _ _ (by simp)]; exact heap_alloc2_new w _ _
  have r3 : W3.heap[b0 + 1 + 1]? = some (.cells #[.int .i64 0, .int .i64 0, .int .i64 0, .int .i64 0] 52 (0, 0)) := by
    have h := heap_alloc_new ((w.alloc (.cells #[.int .i64 x0, .int .i64 y0, .int .i64 x1, .int .i64 y1] 52)).alloc (.cells #[.int .i64 u0, .int .i64 v0, .int .i64 u1, .int .i64 v1] 52)) (.cells #[.int .i64 0, .int .i64 0, .int .i64 0, .int .i64 0] 52)
    rw [hW3] at h
    simpa [← hb0] using h
  have hB3 : Below w.heap.size w W3 := by rw [← hW3]; exact (((Below.refl _ _).alloc (Nat.le_refl _) _).alloc (by simp) _).alloc (by simp; omega) _
  have hcf : ∀ (a b : Value) (w : World), Sem.run Try.prog (callFunc 67 #[a, b]) w = .ok (.enter 67 #[a, b]) w := fun a b w => by kernel_rfl
  have HW3 := Lib.hid hW3
  have HB0 := Lib.hid hb0
  have HB3 := Lib.hid hB3
  have HS3 := Lib.hid hs3
  have R3 := Lib.hid r3
  have HK : Hid (∀ w' : World, Below (b0 + 1 + 1) W3 w' ∧ Row4 (b0 + 1 + 1) w' → (Below (b0 + 1 + 1) W3 w' ∧ Row4 (b0 + 1 + 1) w' ∧ w'.cell? ⟨b0, 0, none⟩ = some (.int .i64 x0) ∧ w'.cell? ⟨b0, 1, none⟩ = some (.int .i64 y0) ∧ w'.cell? ⟨b0, 2, none⟩ = some (.int .i64 x1) ∧ w'.cell? ⟨b0, 3, none⟩ = some (.int .i64 y1) ∧ w'.cell? ⟨b0 + 1, 0, none⟩ = some (.int .i64 u0) ∧ w'.cell? ⟨b0 + 1, 1, none⟩ = some (.int .i64 v0) ∧ w'.cell? ⟨b0 + 1, 2, none⟩ = some (.int .i64 u1) ∧ w'.cell? ⟨b0 + 1, 3, none⟩ = some (.int .i64 v1))) := fun w' ⟨e, er⟩ =>
    have h1 := (e.block b0 (by omega)).trans r1
    have h2 := (e.block (b0 + 1) (by omega)).trans r2
    ⟨e, er, cell_of_row w' b0 0 _ _ (0, 0) h1, cell_of_row w' b0 1 _ _ (0, 0) h1, cell_of_row w' b0 2 _ _ (0, 0) h1, cell_of_row w' b0 3 _ _ (0, 0) h1, cell_of_row w' (b0 + 1) 0 _ _ (0, 0) h2, cell_of_row w' (b0 + 1) 1 _ _ (0, 0) h2, cell_of_row w' (b0 + 1) 2 _ _ (0, 0) h2, cell_of_row w' (b0 + 1) 3 _ _ (0, 0) h2⟩
  have HN : Hid (b0 + 1 + 1 ≤ W3.heap.size) := Lib.hid (by omega)
  clear hW3 hb0 hB3 hs3 r1 r2 r3
  unfold RectPost
  go_enter Try.func102, Try.ntmps102
  go_wp2_with fail
  rw [HW3.out, HB0.out]
  go_region_held3 (fun w' => Below (b0 + 1 + 1) W3 w' ∧ Row4 (b0 + 1 + 1) w' ∧ w'.cell? ⟨b0, 0, none⟩ = some (.int .i64 x0) ∧ w'.cell? ⟨b0, 1, none⟩ = some (.int .i64 y0) ∧ w'.cell? ⟨b0, 2, none⟩ = some (.int .i64 x1) ∧ w'.cell? ⟨b0, 3, none⟩ = some (.int .i64 y1) ∧ w'.cell? ⟨b0 + 1, 0, none⟩ = some (.int .i64 u0) ∧ w'.cell? ⟨b0 + 1, 1, none⟩ = some (.int .i64 v0) ∧ w'.cell? ⟨b0 + 1, 2, none⟩ = some (.int .i64 u1) ∧ w'.cell? ⟨b0 + 1, 3, none⟩ = some (.int .i64 v1))
    (first | exact HK.out _ ⟨Below.refl _ _, _, rfl, R3.out⟩ | exact HK.out _ ⟨(Below.refl _ _).drew, _, rfl, R3.out⟩ | exact HK.out _ (sOn HBx.out HN.out (by assumption)) | exact HK.out _ (st4 (Nat.le_refl _) (by assumption) _ _ _ _))
    (first
      | ((with_reducible refine (columns_any _ _ _ _ _).mono ?_); rintro e wx ⟨rfl, hbx⟩; have HBx := Lib.hid hbx; clear hbx)
      | ((with_reducible refine (rows_any _ _ _ _ _).mono ?_); rintro e wx ⟨rfl, hbx⟩; have HBx := Lib.hid hbx; clear hbx)
      | ((with_reducible refine (clip_any _ _ _ _ _).mono ?_); rintro e wx ⟨rfl, hbx⟩; have HBx := Lib.hid hbx; clear hbx)
      | ((with_reducible refine (rof_any _ _ _ _ _).mono ?_); rintro e wx ⟨rfl, hbx⟩; have HBx := Lib.hid hbx; obtain ⟨a0, a1, a2, a3, hr⟩ := Row4.cells (Row4.keep hbx (And.left (And.right (by assumption)))); have c0 := cell_of_row wx (b0 + 1 + 1) 0 _ _ (0, 0) hr; have c1 := cell_of_row wx (b0 + 1 + 1) 1 _ _ (0, 0) hr; have c2 := cell_of_row wx (b0 + 1 + 1) 2 _ _ (0, 0) hr; have c3 := cell_of_row wx (b0 + 1 + 1) 3 _ _ (0, 0) hr; have f0 := frozen_of_row wx (b0 + 1 + 1) 0 _ _ hr; have f1 := frozen_of_row wx (b0 + 1 + 1) 1 _ _ hr; have f2 := frozen_of_row wx (b0 + 1 + 1) 2 _ _ hr; have f3 := frozen_of_row wx (b0 + 1 + 1) 3 _ _ hr; have HR := Lib.hid hr; clear hbx hr))
  have g4 : ((((wx.setCell ⟨b0 + 1 + 1, 0, none⟩ (.int .i64 (max x0 u0))).setCell ⟨b0 + 1 + 1, 1, none⟩ (.int .i64 (max y0 v0))).setCell ⟨b0 + 1 + 1, 2, none⟩ (.int .i64 (min x1 u1))).setCell ⟨b0 + 1 + 1, 3, none⟩ (.int .i64 (min y1 v1))).heap[b0 + 1 + 1]? = some (.cells #[.int .i64 (max x0 u0), .int .i64 (max y0 v0), .int .i64 (min x1 u1), .int .i64 (min y1 v1)] 52 (0, 0)) := heap_setCell_same _ _ 3 _ _ _ (heap_setCell_same _ _ 2 _ _ _ (heap_setCell_same _ _ 1 _ _ _ (heap_setCell_same wx (b0 + 1 + 1) 0 _ _ _ HR.out)))
  have hl : Below (b0 + 1 + 1) W3 ((((wx.setCell ⟨b0 + 1 + 1, 0, none⟩ (.int .i64 (max x0 u0))).setCell ⟨b0 + 1 + 1, 1, none⟩ (.int .i64 (max y0 v0))).setCell ⟨b0 + 1 + 1, 2, none⟩ (.int .i64 (min x1 u1))).setCell ⟨b0 + 1 + 1, 3, none⟩ (.int .i64 (min y1 v1))) := And.left (by assumption)
  generalize ((((wx.setCell ⟨b0 + 1 + 1, 0, none⟩ (.int .i64 (max x0 u0))).setCell ⟨b0 + 1 + 1, 1, none⟩ (.int .i64 (max y0 v0))).setCell ⟨b0 + 1 + 1, 2, none⟩ (.int .i64 (min x1 u1))).setCell ⟨b0 + 1 + 1, 3, none⟩ (.int .i64 (min y1 v1))) = W9 at *
  have d0 := cell_of_row W9 (b0 + 1 + 1) 0 _ _ (0, 0) g4
  have d1 := cell_of_row W9 (b0 + 1 + 1) 1 _ _ (0, 0) g4
  have d2 := cell_of_row W9 (b0 + 1 + 1) 2 _ _ (0, 0) g4
  have d3 := cell_of_row W9 (b0 + 1 + 1) 3 _ _ (0, 0) g4
  have HL := Lib.hid (Below.trans HB3.out (hl.mono (by have := HB0.out; omega)))
  clear g4 hl
  go_wp2_with fail
  refine bodyPost_ret (v := .agg #[.int .i64 (max x0 u0), .int .i64 (max y0 v0), .int .i64 (min x1 u1), .int .i64 (min y1 v1)]) (by simp [results, Try.results102, go_sem, d0, d1, d2, d3]) rfl ⟨rfl, HL.out⟩
set_option maxRecDepth 20000 in
theorem common_any (x0 y0 x1 y1 u0 v0 u1 v1 : Int) (w : World) : Calls Try.prog 76 #[.agg #[.int .i64 x0, .int .i64 y0, .int .i64 x1, .int .i64 y1], .agg #[.int .i64 u0, .int .i64 v0, .int .i64 u1, .int .i64 v1]] w (RectPost (max x0 u0) (max y0 v0) (min x1 u1) (min y1 v1) w) := by
  have hbo := fun w => both_any x0 y0 x1 y1 u0 v0 u1 v1 w
  unfold RectPost at hbo ⊢
  generalize max x0 u0 = r0 at *
  generalize max y0 v0 = r1 at *
  generalize min x1 u1 = r2 at *
  generalize min y1 v1 = r3 at *
  have HBO := Lib.hid hbo
  clear hbo
  obtain ⟨b0, hb0⟩ : ∃ b, w.heap.size = b := ⟨_, rfl⟩
  obtain ⟨W3, hW3⟩ : ∃ W, ((w.alloc (.cells #[.int .i64 x0, .int .i64 y0, .int .i64 x1, .int .i64 y1] 52)).alloc (.cells #[.int .i64 u0, .int .i64 v0, .int .i64 u1, .int .i64 v1] 52)).alloc (.cells #[.int .i64 0, .int .i64 0, .int .i64 0, .int .i64 0] 52) = W := ⟨_, rfl⟩
  have hs3 : W3.heap.size = b0 + 3 := by rw [← hW3, ← hb0]; simp
  have r3 : W3.heap[b0 + 1 + 1]? = some (.cells #[.int .i64 0, .int .i64 0, .int .i64 0, .int .i64 0] 52 (0, 0)) := by
    have h := heap_alloc_new ((w.alloc (.cells #[.int .i64 x0, .int .i64 y0, .int .i64 x1, .int .i64 y1] 52)).alloc (.cells #[.int .i64 u0, .int .i64 v0, .int .i64 u1, .int .i64 v1] 52)) (.cells #[.int .i64 0, .int .i64 0, .int .i64 0, .int .i64 0] 52)
    rw [hW3] at h
    simpa [← hb0] using h
  have hB3 : Below w.heap.size w W3 := by rw [← hW3]; exact (((Below.refl _ _).alloc (Nat.le_refl _) _).alloc (by simp) _).alloc (by simp; omega) _
  have HW3 := Lib.hid hW3
  have HB0 := Lib.hid hb0
  have HB3 := Lib.hid hB3
  have HS3 := Lib.hid hs3
  have R3 := Lib.hid r3
  clear hW3 hb0 hB3 hs3 r3
  go_enter Try.func76, Try.ntmps76
  go_wp2_with fail
  rw [HW3.out, HB0.out]
  refine (HBO.out _).mono ?_
  rintro e w4 ⟨rfl, hb4⟩
  have r4 : w4.heap[b0 + 1 + 1]? = _ := (hb4.block (b0 + 1 + 1) (by have := HS3.out; omega)).trans R3.out
  have R4 := Lib.hid r4
  have HB4 := Lib.hid (HB3.out.trans (hb4.mono HB3.out.size))
  have hz4 : b0 + 3 ≤ w4.heap.size := by have h1 := hb4.size; have := HS3.out; omega
  clear hb4 r4
  go_wp2_with (first
    | ((with_reducible refine store_row (dst := none) 52 (.tmp 4) (.tmp 7) (b0 + 1 + 1) _ #[.int .i64 r0, .int .i64 r1, .int .i64 r2, .int .i64 r3] 52 R4.out ?_ ?_ ?_ ?_ ?_ ?_); rfl; rfl; exact rectInfo; rfl; (simp [Value.oneCell']); intro w6 hw6 hg6 hz7; have HW6 := Lib.hid hw6; have HG6 := Lib.hid hg6; clear hw6 hg6))
  have d0 := cell_of_row w6 (b0 + 1 + 1) 0 _ _ (0, 0) HW6.out
  have d1 := cell_of_row w6 (b0 + 1 + 1) 1 _ _ (0, 0) HW6.out
  have d2 := cell_of_row w6 (b0 + 1 + 1) 2 _ _ (0, 0) HW6.out
  have d3 := cell_of_row w6 (b0 + 1 + 1) 3 _ _ (0, 0) HW6.out
  refine bodyPost_ret (v := .agg #[.int .i64 r0, .int .i64 r1, .int .i64 r2, .int .i64 r3]) (by simp [results, Try.results76, go_sem, d0, d1, d2, d3]) rfl ⟨rfl, HB4.out.grown HG6.out (by have := HB0.out; omega) (fun k hk => by have := HB0.out; simp at hk; omega)⟩
set_option maxRecDepth 20000 in
theorem meet_any (x0 y0 x1 y1 u0 v0 u1 v1 : Int) (w : World) (h0 : Mid (max x0 u0)) (h1 : Mid (max y0 v0)) (h2 : Mid (min x1 u1)) (h3 : Mid (min y1 v1)) : Calls Try.prog 46 #[.agg #[.int .i64 x0, .int .i64 y0, .int .i64 x1, .int .i64 y1], .agg #[.int .i64 u0, .int .i64 v0, .int .i64 u1, .int .i64 v1]] w fun e w' => e = .returned (.bool (fullB (max x0 u0) (max y0 v0) (min x1 u1) (min y1 v1))) ∧ Below w.heap.size w w' := by
  have hbo := fun w => common_any x0 y0 x1 y1 u0 v0 u1 v1 w
  have hfu := fun w => full_any _ _ _ _ w h0 h1 h2 h3
  unfold RectPost at hbo
  generalize fullB (max x0 u0) (max y0 v0) (min x1 u1) (min y1 v1) = r at *
  have HBO := Lib.hid hbo
  have HFU := Lib.hid hfu
  clear hbo hfu h0 h1 h2 h3
  go_enter Try.func46, Try.ntmps46
  go_wp2_with fail
  refine (HBO.out _).mono ?_
  rintro e w1 ⟨rfl, hb1⟩
  have HB1 := Lib.hid (Below.on hb1 (n := w.heap.size) (W0 := w) (((Below.refl _ _).alloc (Nat.le_refl _) _).alloc (by simp) _) (by simp; omega))
  clear hb1
  go_wp2_with fail
  refine (HFU.out _).mono ?_
  rintro e w2 ⟨rfl, hb2⟩
  have HB2 := Lib.hid (Below.on hb2 HB1.out HB1.out.size)
  clear hb2
  go_wp2_with fail
  go_ret
  exact ⟨rfl, HB2.out⟩
end Go.Proofs.Ytecojcdmigmnhaa
