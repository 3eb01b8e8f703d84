/- Spaces: Bounds, Free. -/
import Derived.Test.YtecojcdmigmnhaaSpn
namespace Go.Proofs.Ytecojcdmigmnhaa
set_option linter.unusedSimpArgs false
set_option linter.unusedVariables false
open Go.RowKit
theorem fbB_is9 {l : List Fo} {S : List Sh} (h : IsShelves l S) (a b : Int) (ha : -far ≤ a) : IsBand (bnd l) a b (fbB (full S) a b) := by
  unfold fbB
  by_cases hb : b ≤ a
  · rw [if_pos hb]
    exact IsBand.empty _ hb
  · rw [if_neg hb, prog_band h a b ha (by omega)]
    exact band_is l a b
/-- What a space's floats must be: their shelves are in order. -/
def SpOk (L : List Fo) : Prop := Lowish L ∧ L.length ≤ 100000
theorem SpOk.ok {L : List Fo} (h : SpOk L) : ShOk (shelves L) := (shelves_is L h.1).ok
theorem SpOk.asc {L : List Fo} (h : SpOk L) : Asc (full (shelves L)) := full_asc h.ok
theorem SpOk.len {L : List Fo} (h : SpOk L) : (full (shelves L)).length ≤ 1000000 := by
  have := shelves_length L
  have := h.2
  show (shelves L).length + 1 ≤ _
  omega
theorem SpOk.pos (L : List Fo) : 0 < (full (shelves L)).length := Nat.succ_pos _
theorem SpOk.band {L : List Fo} (h : SpOk L) (a b : Int) (ha : -far ≤ a) : fbB (full (shelves L)) a b = band L a b := IsBand.unique (fbB_is9 (shelves_is L h.1) a b ha) (band_is L a b)
theorem spband_any (L : List Fo) (a b : Int) (lp base : Nat) (w : World) (h : ListIs w base lp (full (shelves L))) (hk : SpOk L) (ma : Mid a) (mb : Mid b) (ha : -far ≤ a) : Calls Try.prog 68 #[.pointer (some ⟨lp, 0, none⟩), .agg #[.int .i64 a, .int .i64 b]] w (SpanPost (band L a b) w) := by
  have h1 := band_any (full (shelves L)) a b base lp w h hk.asc (by have := hk.len; omega) (SpOk.pos L) ma mb
  unfold BandPost at h1
  rw [hk.band a b ha] at h1
  exact h1
set_option maxRecDepth 20000 in
set_option maxHeartbeats 2000000 in
theorem bounds10_any (L : List Fo) (a b : Int) (base sp : Nat) (w : World) (h : SpaceIs w base sp L) (hk : SpOk L) (ma : Mid a) (mb : Mid b) (ha : -far ≤ a) : Calls Try.prog 40 #[.pointer (some ⟨sp, 0, none⟩), .agg #[.int .i64 a, .int .i64 b]] w (SpanPost (band L a b) w) := by
  obtain ⟨lp, v, q1, q2, q3, q4⟩ := h
  have hbd := fun w h => spband_any L a b lp base w h hk ma mb ha
  unfold SpanPost at hbd ⊢
  generalize band L a b = q at *
  have HBD := Lib.hid hbd
  have hsp := (Array.getElem?_eq_some_iff.1 q1).1
  obtain ⟨b0, hb0⟩ : ∃ b, w.heap.size = b := ⟨_, rfl⟩
  obtain ⟨W2, hW2⟩ : ∃ W, (w.alloc (.cells #[.int .i64 a, .int .i64 b] 61)).alloc (.cells #[.int .i64 0, .int .i64 0] 61) = W := ⟨_, rfl⟩
  have hs2 : W2.heap.size = b0 + 2 := by rw [← hW2, ← hb0]; simp
  have r1 : W2.heap[b0]? = some (.cells #[.int .i64 a, .int .i64 b] 61 (0, 0)) := by rw [← hW2, ← hb0, heap_alloc_old _ _ (by simp), heap_alloc_new]
  have r2 : W2.heap[b0 + 1]? = some (.cells #[.int .i64 0, .int .i64 0] 61 (0, 0)) := by rw [← hW2, ← hb0]; exact heap_alloc2_new w _ _
  have hB2 : Below w.heap.size w W2 := by rw [← hW2]; exact ((Below.refl _ _).alloc (Nat.le_refl _) _).alloc (by simp) _
  have c0 : W2.cell? ⟨sp, 0, none⟩ = some (.pointer (some ⟨lp, 0, none⟩)) := (hB2.cell (p := ⟨sp, 0, none⟩) hsp).trans (cell_of_row w sp 0 _ _ (0, 0) q1)
  have x0 := cell_of_row W2 b0 0 _ _ (0, 0) r1
  have x1 := cell_of_row W2 b0 1 _ _ (0, 0) r1
  have HL := Lib.hid ((q3.below hB2 (Nat.le_refl _)).below ((Below.refl W2.heap.size W2).drew) (Nat.le_refl _))
  have HW2 := Lib.hid hW2
  have HB0 := Lib.hid hb0
  have HB2 := Lib.hid hB2
  have HS2 := Lib.hid hs2
  have R2 := Lib.hid r2
  clear hbd hW2 hb0 hB2 q1 q3 q4 r1 r2 hs2
  go_enter Try.func40, Try.ntmps40
  go_wp2_with fail
  rw [HW2.out, HB0.out]
  go_still_tail 5, (by kernel_rfl)
  go_wp2_with fail
  refine (HBD.out _ HL.out).mono ?_
  rintro e w3 ⟨rfl, hb3⟩
  have r3 : w3.heap[b0 + 1]? = some (.cells #[.int .i64 0, .int .i64 0] 61 (0, 0)) := (hb3.block (b0 + 1) (by show b0 + 1 < W2.heap.size; rw [HS2.out]; omega)).trans R2.out
  have HB3 := Lib.hid (HB2.out.trans ((Below.drewL hb3).mono HB2.out.size))
  have R3 := Lib.hid r3
  have hz3 : b0 + 2 ≤ w3.heap.size := by have h1 : W2.heap.size ≤ w3.heap.size := hb3.size; have := HS2.out; omega
  clear hb3 r3 c0 x0 x1
  go_wp2_with (first
    | ((with_reducible refine store_row (dst := none) 61 (.tmp 4) (.tmp 10) (b0 + 1) _ #[.int .i64 q.1, .int .i64 q.2] 61 R3.out ?_ ?_ ?_ ?_ ?_ ?_); rfl; rfl; exact spanInfo; rfl; (simp [Value.oneCell']); intro w4 hw4 hg4 hz4; have HW4 := Lib.hid hw4; have HG4 := Lib.hid hg4; clear hw4 hg4))
  have d4 := cell_of_row w4 (b0 + 1) 0 _ _ (0, 0) HW4.out
  have d5 := cell_of_row w4 (b0 + 1) 1 _ _ (0, 0) HW4.out
  refine bodyPost_ret (v := .agg #[.int .i64 q.1, .int .i64 q.2]) (by simp [results, Try.results40, go_sem, d4, d5]) rfl ⟨rfl, HB3.out.grown HG4.out (by have := HB0.out; omega) (fun k hk => by have := HB0.out; simp at hk; omega)⟩
set_option maxRecDepth 20000 in
set_option maxHeartbeats 2000000 in
theorem free_any (L : List Fo) (ca cb a b : Int) (base sp : Nat) (w : World) (h : SpaceIs w base sp L) (hk : SpOk L) (ma : Mid a) (mb : Mid b) (ha : -far ≤ a) :
    Calls Try.prog 33 #[.pointer (some ⟨sp, 0, none⟩), .agg #[.int .i64 ca, .int .i64 cb], .agg #[.int .i64 a, .int .i64 b]] w (SpanPost (max ca (band L a b).1, min cb (band L a b).2) w) := by
  obtain ⟨lp, v, q1, q2, q3, q4⟩ := h
  have hbd := fun w h => spband_any L a b lp base w h hk ma mb ha
  unfold SpanPost at hbd ⊢
  generalize band L a b = q at *
  have HBD := Lib.hid hbd
  have hsp := (Array.getElem?_eq_some_iff.1 q1).1
  obtain ⟨b0, hb0⟩ : ∃ b, w.heap.size = b := ⟨_, rfl⟩
  obtain ⟨W3, hW3⟩ : ∃ W, ((w.alloc (.cells #[.int .i64 ca, .int .i64 cb] 61)).alloc (.cells #[.int .i64 a, .int .i64 b] 61)).alloc (.cells #[.int .i64 0, .int .i64 0] 61) = W := ⟨_, rfl⟩
  have hs3 : W3.heap.size = b0 + 3 := by rw [← hW3, ← hb0]; simp
  have r1 : W3.heap[b0]? = some (.cells #[.int .i64 ca, .int .i64 cb] 61 (0, 0)) := by rw [← hW3, ← hb0, heap_alloc_old _ _ (by simp; omega), heap_alloc_old _ _ (by simp), heap_alloc_new]
  have r2 : W3.heap[b0 + 1]? = some (.cells #[.int .i64 a, .int .i64 b] 61 (0, 0)) := by rw [← hW3, ← hb0, heap_alloc_old _ _ (by simp)]; exact heap_alloc2_new w _ _
  have r3 : W3.heap[b0 + 1 + 1]? = some (.cells #[.int .i64 0, .int .i64 0] 61 (0, 0)) := by
    have h := heap_alloc_new ((w.alloc (.cells #[.int .i64 ca, .int .i64 cb] 61)).alloc (.cells #[.int .i64 a, .int .i64 b] 61)) (.cells #[.int .i64 0, .int .i64 0] 61)
    rw [hW3] at h
    simpa [← hb0] using h
  have hB3 : Below w.heap.size w W3 := by rw [← hW3]; exact (((Below.refl _ _).alloc (Nat.le_refl _) _).alloc (by simp) _).alloc (by simp; omega) _
  have c0 : W3.cell? ⟨sp, 0, none⟩ = some (.pointer (some ⟨lp, 0, none⟩)) := (hB3.cell (p := ⟨sp, 0, none⟩) hsp).trans (cell_of_row w sp 0 _ _ (0, 0) q1)
  have x0 := cell_of_row W3 b0 0 _ _ (0, 0) r1
  have x1 := cell_of_row W3 b0 1 _ _ (0, 0) r1
  have x2 := cell_of_row W3 (b0 + 1) 0 _ _ (0, 0) r2
  have x3 := cell_of_row W3 (b0 + 1) 1 _ _ (0, 0) r2
  have hlb : sp < b0 + 1 + 1 := by omega
  have HK : Hid (∀ w', Below (b0 + 1 + 1) W3 w' → (Below (b0 + 1 + 1) W3 w' ∧ w'.cell? ⟨sp, 0, none⟩ = some (.pointer (some ⟨lp, 0, none⟩)) ∧ w'.cell? ⟨b0, 0, none⟩ = some (.int .i64 ca) ∧ w'.cell? ⟨b0, 1, none⟩ = some (.int .i64 cb) ∧ w'.cell? ⟨b0 + 1, 0, none⟩ = some (.int .i64 a) ∧ w'.cell? ⟨b0 + 1, 1, none⟩ = some (.int .i64 b))) :=
    fun w' hB => ⟨hB, (hB.cell (p := ⟨sp, 0, none⟩) hlb).trans c0, (hB.cell (p := ⟨b0, 0, none⟩) (show b0 < _ by omega)).trans x0, (hB.cell (p := ⟨b0, 1, none⟩) (show b0 < _ by omega)).trans x1, (hB.cell (p := ⟨b0 + 1, 0, none⟩) (show b0 + 1 < _ by omega)).trans x2, (hB.cell (p := ⟨b0 + 1, 1, none⟩) (show b0 + 1 < _ by omega)).trans x3⟩
  have HL := Lib.hid ((q3.below hB3 (Nat.le_refl _)).below ((Below.refl W3.heap.size W3).drew) (Nat.le_refl _))
  have HW3 := Lib.hid hW3
  have HB0 := Lib.hid hb0
  have HB3 := Lib.hid hB3
  have HS3 := Lib.hid hs3
  have R3 := Lib.hid r3
  clear hbd hW3 hb0 hB3 q1 q3 q4 r1 r2 r3 hs3 c0 x0 x1 x2 x3
  go_enter Try.func33, Try.ntmps33
  go_wp2_with fail
  rw [HW3.out, HB0.out]
  go_region_held3 (fun w' => Below (b0 + 1 + 1) W3 w' ∧ w'.cell? ⟨sp, 0, none⟩ = some (.pointer (some ⟨lp, 0, none⟩)) ∧ w'.cell? ⟨b0, 0, none⟩ = some (.int .i64 ca) ∧ w'.cell? ⟨b0, 1, none⟩ = some (.int .i64 cb) ∧ w'.cell? ⟨b0 + 1, 0, none⟩ = some (.int .i64 a) ∧ w'.cell? ⟨b0 + 1, 1, none⟩ = some (.int .i64 b))
    (first | exact HK.out _ (Below.refl _ _) | exact HK.out _ ((Below.refl _ _).drew) | exact HK.out _ (HB5.out.mono (by have := HS3.out; omega)) | exact HK.out _ (HB4.out.mono (by have := HS3.out; omega)) | (refine HK.out _ (Below.setCell (Below.setCell (HB5.out.mono ?_) ?_ _) ?_ _) <;> first | exact Nat.le_refl _ | (have := HS3.out; omega)))
    (first
      | ((with_reducible refine (HBD.out _ HL.out).mono ?_); rintro e w4 ⟨rfl, hb4⟩; have HB4 := Lib.hid (show Below W3.heap.size W3 w4 from Below.drewL hb4); clear hb4)
      | ((with_reducible refine (clip_any ca cb q.1 q.2 _).mono ?_); rintro e w5 ⟨rfl, hb5⟩; have HB5 := Lib.hid (Below.onto hb5 HB4.out); clear hb5; have r5 := (HB5.out.block (b0 + 1 + 1) (by have := HS3.out; omega)).trans R3.out; have u0 := cell_of_row w5 (b0 + 1 + 1) 0 _ _ (0, 0) r5; have u1 := cell_of_row w5 (b0 + 1 + 1) 1 _ _ (0, 0) r5; have v0 := frozen_of_row w5 (b0 + 1 + 1) 0 _ _ r5; have v1 := frozen_of_row w5 (b0 + 1 + 1) 1 _ _ r5; have R5 := Lib.hid r5; clear r5))
  rename_i hH
  clear hH
  have r6 : ((w5.setCell ⟨b0 + 1 + 1, 0, none⟩ (.int .i64 (max ca q.1))).setCell ⟨b0 + 1 + 1, 1, none⟩ (.int .i64 (min cb q.2))).heap[b0 + 1 + 1]? = some (.cells #[.int .i64 (max ca q.1), .int .i64 (min cb q.2)] 61 (0, 0)) := heap_setCell_same _ _ 1 _ _ _ (heap_setCell_same w5 _ 0 _ _ _ R5.out)
  have hB6 : Below w.heap.size w ((w5.setCell ⟨b0 + 1 + 1, 0, none⟩ (.int .i64 (max ca q.1))).setCell ⟨b0 + 1 + 1, 1, none⟩ (.int .i64 (min cb q.2))) :=
    Below.setCell (Below.setCell (HB3.out.trans (HB5.out.mono HB3.out.size)) (by show _ ≤ b0 + 1 + 1; have := HB0.out; omega) _) (by show _ ≤ b0 + 1 + 1; have := HB0.out; omega) _
  generalize (w5.setCell ⟨b0 + 1 + 1, 0, none⟩ (.int .i64 (max ca q.1))).setCell ⟨b0 + 1 + 1, 1, none⟩ (.int .i64 (min cb q.2)) = W6 at *
  have d4 := cell_of_row W6 (b0 + 1 + 1) 0 _ _ (0, 0) r6
  have d5 := cell_of_row W6 (b0 + 1 + 1) 1 _ _ (0, 0) r6
  have HB6 := Lib.hid hB6
  clear u0 u1 v0 v1 hB6 r6
  go_wp2_with fail
  refine bodyPost_ret (v := .agg #[.int .i64 (max ca q.1), .int .i64 (min cb q.2)]) (by simp [results, Try.results33, go_sem, d4, d5]) rfl ⟨rfl, HB6.out⟩
end Go.Proofs.Ytecojcdmigmnhaa
