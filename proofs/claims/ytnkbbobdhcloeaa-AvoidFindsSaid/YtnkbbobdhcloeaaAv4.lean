/- Avoid: speaks, the document's example. -/
import Derived.Test.YtnkbbobdhcloeaaAv3
namespace Go.Proofs.Ytnkbbobdhcloeaa
set_option linter.unusedSimpArgs false
set_option linter.unusedVariables false
open Go.RowKit
theorem wantInfo : (Try.prog.info? 35).map (·.size) = some 5 := by kernel_rfl
theorem SpaceIs.offT {w w' : World} {base sp k : Nat} {L : List Fo} {C : Array Value} {f : Nat × Nat} {T : TypeId} (h : SpaceIs w base sp L) (hg : w.grownBy w' (some k)) (hk : w.heap[k]? = some (.cells C T f)) (t1 : 93 ≠ T) (t2 : 112 ≠ T) (t3 : 109 ≠ T) (t4 : 46 ≠ T) : SpaceIs w' base sp L := by
  obtain ⟨lp, v, h1, h2, h3, h4⟩ := h
  have hne : ∀ (g : Nat) (D : Array Value) (t : TypeId) (f' : Nat × Nat), t ≠ T → w.heap[g]? = some (Obj.cells D t f') → w'.heap[g]? = w.heap[g]? := fun g D t f' ht hh =>
    hg.block g (Array.getElem?_eq_some_iff.1 hh).1 (fun e => by injection e with e; exact type_off hh hk ht e)
  exact ⟨lp, v, (hne sp _ _ _ t1 h1).trans h1, h2, h3.same fun g C f hh => hh.elim (hne g C _ f t3) (hne g C _ f t2), own_same h4 fun g C f _ hh => hne g C _ f t4 hh⟩
def spkA : List Fo := [⟨1, 0, 0, 3, 2⟩]
def spk7 : Wa := ⟨0, 10, 7, 1, 0⟩
def spk8 : Wa := ⟨0, 10, 8, 1, 0⟩
theorem spkA_rest : rest (full (shelves spkA)) 0 = [⟨2, -far, far⟩] := rfl
theorem spk7_top : topA spkA spk7 = 0 := by
  unfold topA
  rw [show spk7.y = 0 from rfl, spkA_rest]
  decide
theorem spk8_top : topA spkA spk8 = 2 := by
  unfold topA
  rw [show spk8.y = 0 from rfl, spkA_rest]
  decide
theorem spk7_left : leftA spkA spk7 0 = 3 := by decide
theorem spk8_left : leftA spkA spk8 2 = 0 := by decide
set_option maxRecDepth 20000 in
set_option maxHeartbeats 2000000 in
theorem speaks12_any (w : World) : Calls Try.prog 16 #[] w fun e w' => e = .returned (.bool true) ∧ Below w.heap.size w w' := by
  have hpu := fun base sp w h hb => put_any [] ⟨1, 0, 0, 3, 2⟩ base sp w h ShOk.nil (by decide) (by unfold Mid; decide) (by unfold Mid; decide) (by unfold Mid; decide) (by unfold Mid; decide) (by decide) (by decide) (.inl rfl) hb
  have h7 := fun base sp w h => find_any12 spkA spk7 base sp w h (by decide) (by decide) (by decide)
  have h8 := fun base sp w h => find_any12 spkA spk8 base sp w h (by decide) (by decide) (by decide)
  unfold FindPost at h7 h8
  rw [spk7_top, spk7_left] at h7
  rw [spk8_top, spk8_left] at h8
  have g7 : ∀ base sp w, SpaceIs w base sp spkA → Calls Try.prog 18 #[.pointer (some ⟨sp, 0, none⟩), .agg #[.int .i64 0, .int .i64 10, .int .i64 7, .int .i64 1, .int .i64 0]] w fun e w' => e = .returned (.agg #[.int .i64 3, .int .i64 0, .int .i64 10, .int .i64 1]) ∧ Below w.heap.size w w' := h7
  have g8 : ∀ base sp w, SpaceIs w base sp spkA → Calls Try.prog 18 #[.pointer (some ⟨sp, 0, none⟩), .agg #[.int .i64 0, .int .i64 10, .int .i64 8, .int .i64 1, .int .i64 0]] w fun e w' => e = .returned (.agg #[.int .i64 0, .int .i64 2, .int .i64 8, .int .i64 3]) ∧ Below w.heap.size w w' := h8
  have HPU := Lib.hid hpu
  have H7 := Lib.hid g7
  have H8 := Lib.hid g8
  clear hpu h7 h8 g7 g8
  go_enter Try.func16, Try.ntmps16
  go_wp2_with fail
  refine (spnew_any w).mono ?_
  rintro e w1 ⟨sp, rfl, hs1, hb1⟩
  have HS1 := Lib.hid hs1
  have HB1 := Lib.hid hb1
  clear hs1 hb1
  go_wp2_with fail
  refine (HPU.out w.heap.size sp w1 HS1.out HB1.out.size).mono ?_
  unfold PutPost
  rintro e w2 ⟨rfl, hs2, ht2⟩
  have HS2 : Hid (SpaceIs w2 w.heap.size sp spkA) := Lib.hid hs2
  have HB2 := Lib.hid (HB1.out.trans (ht2.below HB1.out.size))
  clear hs2 ht2
  go_wp2_with (first
    | ((with_reducible refine store_new (dst := none) 35 (.tmp 2) (.tmp 12) w2 _ #[.int .i64 0, .int .i64 10, .int .i64 7, .int .i64 1, .int .i64 0] 35 rfl ?_ ?_ ?_ ?_ ?_ ?_); rfl; rfl; exact wantInfo; rfl; (simp [Value.oneCell'])))
  have hnew : Below w2.heap.size w2 (w2.alloc (.cells #[.int .i64 0, .int .i64 10, .int .i64 7, .int .i64 1, .int .i64 0] 35)) := (Below.refl _ _).alloc (Nat.le_refl _) _
  have hs3 := HS2.out.below hnew (Nat.le_refl _)
  have hb3 := HB2.out.trans (hnew.mono HB2.out.size)
  have hv3 := heap_alloc_new w2 (.cells #[.int .i64 0, .int .i64 10, .int .i64 7, .int .i64 1, .int .i64 0] 35)
  clear hnew
  generalize w2.alloc (.cells #[.int .i64 0, .int .i64 10, .int .i64 7, .int .i64 1, .int .i64 0] 35) = w3 at *
  obtain ⟨bW, hbW⟩ : ∃ b, w2.heap.size = b := ⟨_, rfl⟩
  have hbw : w.heap.size ≤ bW := by have := HB2.out.size; omega
  rw [hbW] at hv3 ⊢
  have HS3 := Lib.hid hs3
  have HB3 := Lib.hid hb3
  have HV3 := Lib.hid hv3
  clear hs3 hb3 hv3 hbW
  refine (H7.out _ sp w3 HS3.out).mono ?_
  rintro e w4 ⟨rfl, hb4⟩
  have HS4 := Lib.hid (HS3.out.below hb4 (Nat.le_refl _))
  have hv4 := (hb4.block bW (Array.getElem?_eq_some_iff.1 HV3.out).1).trans HV3.out
  have HB4 := Lib.hid (HB3.out.trans (hb4.mono HB3.out.size))
  have HV4 := Lib.hid hv4
  clear hb4
  have c2 : w4.cell? ⟨bW, 2, none⟩ = some (.int .i64 7) := cell_of_row w4 bW 2 _ _ (0, 0) hv4
  have f2 := frozen_of_row w4 bW 2 _ _ hv4
  have c0 : w4.cell? ⟨bW, 0, none⟩ = some (.int .i64 0) := cell_of_row w4 bW 0 _ _ (0, 0) hv4
  have c1 : w4.cell? ⟨bW, 1, none⟩ = some (.int .i64 10) := cell_of_row w4 bW 1 _ _ (0, 0) hv4
  have c3 : w4.cell? ⟨bW, 3, none⟩ = some (.int .i64 1) := cell_of_row w4 bW 3 _ _ (0, 0) hv4
  have c4 : w4.cell? ⟨bW, 4, none⟩ = some (.int .i64 0) := cell_of_row w4 bW 4 _ _ (0, 0) hv4
  have hbl : bW < w4.heap.size := (Array.getElem?_eq_some_iff.1 hv4).1
  have hbl' : bW ≠ w4.heap.size := by omega
  clear hv4
  go_wp2_with (first
    | ((with_reducible refine store_new (dst := none) 30 (.tmp 3) (.tmp 15) w4 _ #[.int .i64 3, .int .i64 0, .int .i64 10, .int .i64 1] 30 rfl ?_ ?_ ?_ ?_ ?_ ?_); rfl; rfl; exact rectInfo; rfl; (simp [Value.oneCell'])))
  have hg5 : w4.grownBy (w4.setCell ⟨bW, 2, none⟩ (.int .i64 8)) (some bW) := grown_setCells bW [.int .i64 8] 2 w4
  have hs5 := HS4.out.offT hg5 HV4.out (by decide) (by decide) (by decide) (by decide)
  have hb5 : Below w.heap.size w (w4.setCell ⟨bW, 2, none⟩ (.int .i64 8)) := HB4.out.grown hg5 HB4.out.size (fun k hk => by injection hk with hk; omega)
  have hz5 : (w4.setCell ⟨bW, 2, none⟩ (.int .i64 8)).heap.size = w4.heap.size := by simp
  clear c0 c1 c2 c3 c4 f2 hg5
  obtain ⟨bA, hbA⟩ : ∃ b, w4.heap.size = b := ⟨_, rfl⟩
  rw [hbA] at hz5 ⊢
  generalize w4.setCell ⟨bW, 2, none⟩ (.int .i64 8) = w5 at *
  have hnew : Below w5.heap.size w5 (w5.alloc (.cells #[.int .i64 3, .int .i64 0, .int .i64 10, .int .i64 1] 30)) := (Below.refl _ _).alloc (Nat.le_refl _) _
  have hs6 := hs5.below hnew (Nat.le_refl _)
  have hb6 := hb5.trans (hnew.mono hb5.size)
  have hv6 := heap_alloc_new w5 (.cells #[.int .i64 3, .int .i64 0, .int .i64 10, .int .i64 1] 30)
  rw [hz5] at hv6
  clear hnew hs5 hb5 hbA
  generalize w5.alloc (.cells #[.int .i64 3, .int .i64 0, .int .i64 10, .int .i64 1] 30) = w6 at *
  refine (H8.out _ sp w6 hs6).mono ?_
  rintro e w7 ⟨rfl, hb7⟩
  have hv7 := (hb7.block bA (Array.getElem?_eq_some_iff.1 hv6).1).trans hv6
  have r0 : w7.cell? ⟨bA, 0, none⟩ = some (.int .i64 3) := cell_of_row w7 bA 0 _ _ (0, 0) hv7
  have r1 : w7.cell? ⟨bA, 1, none⟩ = some (.int .i64 0) := cell_of_row w7 bA 1 _ _ (0, 0) hv7
  have r2 : w7.cell? ⟨bA, 2, none⟩ = some (.int .i64 10) := cell_of_row w7 bA 2 _ _ (0, 0) hv7
  have r3 : w7.cell? ⟨bA, 3, none⟩ = some (.int .i64 1) := cell_of_row w7 bA 3 _ _ (0, 0) hv7
  have hal : bA < w7.heap.size := (Array.getElem?_eq_some_iff.1 hv7).1
  have HB7 := Lib.hid (hb6.trans (hb7.mono hb6.size))
  clear hv6 hv7 hb6 hb7 hs6 HS4 HB4 HV4 hz5
  go_wp2_with (first
    | ((with_reducible refine store_new (dst := none) 30 (.tmp 4) (.tmp 19) w7 _ #[.int .i64 0, .int .i64 2, .int .i64 8, .int .i64 3] 30 rfl ?_ ?_ ?_ ?_ ?_ ?_); rfl; rfl; exact rectInfo; rfl; (simp [Value.oneCell'])))
  go_ret
  exact ⟨rfl, HB7.out.alloc HB7.out.size _⟩
end Go.Proofs.Ytnkbbobdhcloeaa
