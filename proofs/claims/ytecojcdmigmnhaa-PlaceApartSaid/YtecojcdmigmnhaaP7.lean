/- Place: speaks. -/
import Derived.Test.YtecojcdmigmnhaaP6
namespace Go.Proofs.Ytecojcdmigmnhaa
set_option linter.unusedSimpArgs false
set_option linter.unusedVariables false
open Go.RowKit
def spkQ : Wp := ⟨1, 0, 0, 10, 3, 2, 0⟩
def spkF : Fo := ⟨1, 0, 0, 3, 2⟩
def spkG : Fo := ⟨1, 3, 0, 6, 2⟩
theorem spkQ0 : putP [] spkQ = spkF := by
  have e1 : startP [] spkQ = 0 := by decide
  have e2 : topP [] spkQ = 0 := by
    unfold topP
    rw [e1, show rest (full (shelves [])) 0 = [] from rfl]
    rfl
  have e3 : leftP [] spkQ 0 = 0 := by decide
  unfold putP
  rw [e2, e3]
  rfl
theorem spkQ1 : putP [spkF] spkQ = spkG := by
  have e1 : startP [spkF] spkQ = 0 := by decide
  have e2 : topP [spkF] spkQ = 0 := by
    unfold topP
    rw [e1, show rest (full (shelves [spkF])) 0 = [⟨2, -far, far⟩] from rfl]
    decide
  have e3 : leftP [spkF] spkQ 0 = 3 := by decide
  unfold putP
  rw [e2, e3]
  rfl
theorem wantInfo11 : (Try.prog.info? 90).map (·.size) = some 7 := by kernel_rfl
theorem cf_put11 : ∀ (x y : Value) (w : World), (callFunc 44 #[x, y]).run Try.prog w = .ok (.enter 44 #[x, y]) w := fun x y w => by kernel_rfl
theorem box4v {w : World} {b : Nat} {x0 x1 x2 x3 : Value} {T : TypeId} (h : w.heap[b]? = some (.cells #[x0, x1, x2, x3] T (0, 0))) :
    w.cell? ⟨b, 0, none⟩ = some x0 ∧ w.cell? ⟨b, 1, none⟩ = some x1 ∧ w.cell? ⟨b, 2, none⟩ = some x2 ∧ w.cell? ⟨b, 3, none⟩ = some x3 :=
  ⟨cell_of_row w b 0 _ _ (0, 0) h, cell_of_row w b 1 _ _ (0, 0) h, cell_of_row w b 2 _ _ (0, 0) h, cell_of_row w b 3 _ _ (0, 0) h⟩
set_option maxRecDepth 20000 in
set_option maxHeartbeats 4000000 in
theorem speaks11_any (w : World) : Calls Try.prog 41 #[] w fun e w' => e = .returned (.bool true) ∧ Below w.heap.size w w' := by
  have p1 := fun base sp w h hb => put_any11 [] spkQ base sp w h (by decide) (by decide) (by decide) hb
  have p2 := fun base sp w h hb => put_any11 [spkF] spkQ base sp w h (by decide) (by decide) (by decide) hb
  unfold PPutPost at p1 p2
  rw [spkQ0] at p1
  rw [spkQ1] at p2
  have P1 := Lib.hid p1
  have P2 := Lib.hid p2
  clear p1 p2
  go_enter Try.func41, Try.ntmps41
  go_wp2_with fail
  refine (spnew_any w).mono ?_
  rintro e w1 ⟨sp, rfl, hs1, hb1⟩
  have HS1 := Lib.hid hs1
  have HB1 := Lib.hid hb1
  clear hs1 hb1
  obtain ⟨W2, hW2⟩ : ∃ W, w1.alloc (.cells #[.int .i64 1, .int .i64 0, .int .i64 0, .int .i64 10, .int .i64 3, .int .i64 2, .int .i64 0] 90) = W := ⟨_, rfl⟩
  obtain ⟨bW, hbW⟩ : ∃ b, w1.heap.size = b := ⟨_, rfl⟩
  have g1 : W2.heap[bW]? = some (.cells #[.int .i64 1, .int .i64 0, .int .i64 0, .int .i64 10, .int .i64 3, .int .i64 2, .int .i64 0] 90 (0, 0)) := by rw [← hW2, ← hbW]; exact heap_alloc_new w1 _
  have hb2 : Below w1.heap.size w1 W2 := by rw [← hW2]; exact (Below.refl _ _).alloc (Nat.le_refl _) _
  have HS2 := Lib.hid (HS1.out.below hb2 (Nat.le_refl _))
  have HB2 := Lib.hid (Below.onto hb2 HB1.out)
  have HW2 := Lib.hid hW2
  have HBW := Lib.hid hbW
  have G1 := Lib.hid g1
  clear hW2 hbW g1 hb2
  go_wp2_with (first
    | ((with_reducible refine store_new (dst := none) 90 (.tmp 2) (.tmp 9) w1 _ #[.int .i64 1, .int .i64 0, .int .i64 0, .int .i64 10, .int .i64 3, .int .i64 2, .int .i64 0] 90 rfl ?_ ?_ ?_ ?_ ?_ ?_); rfl; rfl; exact wantInfo11; rfl; (simp [Value.oneCell'])))
  rw [HW2.out, HBW.out]
  rename_i K hK
  refine two_puts w.heap.size sp bW [.int .i64 1, .int .i64 0, .int .i64 0, .int .i64 10, .int .i64 3, .int .i64 2, .int .i64 0] (0, 0, 3, 2) (3, 0, 6, 2) spkF spkG 44 34 90 _
    (by kernel_rfl) rfl (by kernel_rfl) ⟨⟨_, rfl, rfl, rfl, rfl⟩, ⟨_, rfl, rfl, rfl, rfl⟩, ⟨_, rfl, rfl, rfl, rfl⟩, ⟨_, rfl, rfl, rfl, rfl⟩, ⟨_, rfl, rfl, rfl, rfl⟩, ⟨_, rfl, rfl, rfl, rfl⟩, ⟨_, rfl, rfl, rfl, rfl⟩, ⟨_, rfl, rfl, rfl, rfl⟩, ⟨_, rfl, rfl, rfl, rfl⟩, ⟨_, rfl, rfl, rfl, rfl⟩⟩ (by kernel_rfl)
    cf_put11 (by simp) HB2.out.size rfl rfl rfl rfl rfl rfl Try.underlying90 rfl wantInfo11 G1.out HS2.out (fun w' hb hs => P1.out _ sp w' hs hb) (fun w' hb hs => P2.out _ sp w' hs hb) ?_
  intro bA bB w3 hA hB hb3
  have HB3 := Lib.hid (HB2.out.trans hb3)
  obtain ⟨a0, a1, a2, a3⟩ := box4v hA
  obtain ⟨c0, c1, c2, c3⟩ := box4v hB
  refine hK _ _ ?_
  clear hK hA hB hb3
  simp only at a0 a1 a2 a3 c0 c1 c2 c3
  go_wp2_with fail
  go_ret
  exact ⟨rfl, HB3.out⟩
end Go.Proofs.Ytecojcdmigmnhaa
