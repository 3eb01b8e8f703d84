/- Place: Put. -/
import Derived.Test.YtecojcdmigmnhaaP3
namespace Go.Proofs.Ytecojcdmigmnhaa
set_option linter.unusedSimpArgs false
set_option linter.unusedVariables false
open Go.RowKit
/-- A block of another kind outlives a Put. -/
theorem SpTouch.keepT {w w' : World} {base base' sp k : Nat} {L : List Fo} {C : Array Value} {T : TypeId} {f : Nat × Nat} (h : SpTouch w w' base sp) (hs : SpaceIs w base' sp L) (hk : w.heap[k]? = some (.cells C T f)) (t1 : 127 ≠ T) (t2 : 164 ≠ T) (t3 : 162 ≠ T) (t4 : 105 ≠ T) : w'.heap[k]? = some (.cells C T f) := by
  obtain ⟨lp, v, h1, h2, h3, h4⟩ := hs
  refine (h.2 k (Array.getElem?_eq_some_iff.1 hk).1 (.inr ⟨fun e => type_off hk h1 (Ne.symm t1) e, fun ht => ?_⟩)).trans hk
  obtain ⟨D, g, hd | hd | hd⟩ := ht
  · exact type_off hk hd (Ne.symm t3) rfl
  · exact type_off hk hd (Ne.symm t4) rfl
  · exact type_off hk hd (Ne.symm t2) rfl
theorem SpaceIs.offP {w w' : World} {base sp k : Nat} {L : List Fo} {C : Array Value} {f : Nat × Nat} {T : TypeId} (h : SpaceIs w base sp L) (hg : w.grownBy w' (some k)) (hk : w.heap[k]? = some (.cells C T f)) (t1 : 127 ≠ T) (t2 : 164 ≠ T) (t3 : 162 ≠ T) (t4 : 105 ≠ T) : SpaceIs w' base sp L := by
  obtain ⟨lp, v, h1, h2, h3, h4⟩ := h
  have hne : ∀ (g : Nat) (D : Array Value) (t : TypeId) (f' : Nat × Nat), t ≠ T → w.heap[g]? = some (Obj.cells D t f') → w'.heap[g]? = w.heap[g]? := fun g D t f' ht hh =>
    hg.block g (Array.getElem?_eq_some_iff.1 hh).1 (fun e => by injection e with e; exact type_off hh hk ht e)
  exact ⟨lp, v, (hne sp _ _ _ t1 h1).trans h1, h2, h3.same fun g C f hh => hh.elim (hne g C _ f t3) (hne g C _ f t2), own_same h4 fun g C f _ hh => hne g C _ f t4 hh⟩
/-- The float that Put leaves in the space. -/
def putP (L : List Fo) (q : Wp) : Fo := ⟨q.s, leftP L q (topP L q), topP L q, leftP L q (topP L q) + q.wd, topP L q + q.h⟩
def PPutPost (L : List Fo) (q : Wp) (base sp : Nat) (w : World) (e : Ending) (w' : World) : Prop :=
  e = .returned (.agg #[.int .i64 (putP L q).x0, .int .i64 (putP L q).y0, .int .i64 (putP L q).x1, .int .i64 (putP L q).y1]) ∧ SpaceIs w' base sp (L ++ [putP L q]) ∧ SpTouch w w' base sp
set_option maxRecDepth 20000 in
set_option maxHeartbeats 4000000 in
theorem put_any11 (L : List Fo) (q : Wp) (base sp : Nat) (w : World) (h : SpaceIs w base sp L) (hn : nearB L = true) (hl : L.length ≤ 100000) (hq : okWp q = true) (hbase : base ≤ w.heap.size) :
    Calls Try.prog 44 #[.pointer (some ⟨sp, 0, none⟩), .agg #[.int .i64 q.s, .int .i64 q.c, .int .i64 q.a, .int .i64 q.b, .int .i64 q.wd, .int .i64 q.h, .int .i64 q.y]] w (PPutPost L q base sp w) := by
  obtain ⟨⟨ia, ib, iw, ih, iy⟩, i0, _⟩ := okWp_at hq
  have hti := topP_in hn hq
  have hli := leftP_in (y := topP L q) hn hq
  have hfd := fun w h => find_any11 L q base sp w h hn hl hq
  have hlw := near_low hn
  unfold in48 at iw ih
  have hpu := fun w h hb => put_any L (putP L q) base sp w h (shelves_is L hlw).ok hl (by unfold putP Mid; simp only; omega) (by unfold putP Mid; simp only; omega) (by unfold putP Mid; simp only; omega) (by unfold putP Mid; simp only; omega) (by unfold putP far; simp only; omega) (by unfold putP far; simp only; omega) i0 hb
  unfold PFindPost at hfd
  unfold PutPost at hpu
  unfold PPutPost
  have e1 : (putP L q).x0 = leftP L q (topP L q) := rfl
  have e2 : (putP L q).y0 = topP L q := rfl
  have e3 : (putP L q).x1 = leftP L q (topP L q) + q.wd := rfl
  have e4 : (putP L q).y1 = topP L q + q.h := rfl
  have e5 : (putP L q).s = q.s := rfl
  rw [e1, e2, e3, e4, e5] at hpu
  rw [e1, e2, e3, e4]
  obtain ⟨F, hF⟩ : ∃ F, L ++ [putP L q] = F := ⟨_, rfl⟩
  rw [hF] at hpu ⊢
  obtain ⟨x, hx⟩ : ∃ x, leftP L q (topP L q) = x := ⟨_, rfl⟩
  obtain ⟨t, ht⟩ : ∃ x, topP L q = x := ⟨_, rfl⟩
  rw [hx, ht] at hfd hpu ⊢
  obtain ⟨xw, hxw⟩ : ∃ z, x + q.wd = z := ⟨_, rfl⟩
  obtain ⟨th, hth⟩ : ∃ z, t + q.h = z := ⟨_, rfl⟩
  rw [hxw, hth] at hfd hpu ⊢
  obtain ⟨W2, hW2⟩ : ∃ W, (w.alloc (.cells #[.int .i64 q.s, .int .i64 q.c, .int .i64 q.a, .int .i64 q.b, .int .i64 q.wd, .int .i64 q.h, .int .i64 q.y] 90)).alloc (.cells #[.int .i64 0, .int .i64 0, .int .i64 0, .int .i64 0] 52) = W := ⟨_, rfl⟩
  obtain ⟨b0, hb0⟩ : ∃ b, w.heap.size = b := ⟨_, rfl⟩
  have r0 : W2.heap[b0]? = some (.cells #[.int .i64 q.s, .int .i64 q.c, .int .i64 q.a, .int .i64 q.b, .int .i64 q.wd, .int .i64 q.h, .int .i64 q.y] 90 (0, 0)) := by rw [← hW2, ← hb0, heap_alloc_old _ _ (by simp)]; exact heap_alloc_new w _
  have r1 : W2.heap[b0 + 1]? = some (.cells #[.int .i64 0, .int .i64 0, .int .i64 0, .int .i64 0] 52 (0, 0)) := by rw [← hW2, ← hb0]; exact heap_alloc2_new w _ _
  have hB2 : Below w.heap.size w W2 := by rw [← hW2]; exact ((Below.refl _ _).alloc (Nat.le_refl _) _).alloc (by simp) _
  have HS2 := Lib.hid (h.below hB2 (Nat.le_refl _))
  have HFD := Lib.hid hfd
  have HPU := Lib.hid hpu
  have HW2 := Lib.hid hW2
  have HBB := Lib.hid hb0
  have HB2 := Lib.hid hB2
  have R0 := Lib.hid r0
  have R1 := Lib.hid r1
  obtain ⟨x0, x1, x2, x3, x4, x5, x6⟩ := boxP r0
  clear hfd hpu hW2 hb0 hB2 r0 r1 h hn hl hq ia ib iw ih iy i0 hti hli hlw e1 e2 e3 e4 e5 hF hx ht hxw hth
  obtain ⟨qs, qc, qa, qb, qw, qh, qy⟩ := q
  simp only at *
  go_enter Try.func44, Try.ntmps44
  go_wp2_with fail
  rw [HW2.out, HBB.out]
  go_wp2_with fail
  refine (HFD.out W2 HS2.out).mono ?_
  rintro e w3 ⟨rfl, hb3⟩
  have HS3 := Lib.hid (HS2.out.below hb3 (Nat.le_refl _))
  have hr0 := keepB R0.out hb3
  have hr1 := keepB R1.out hb3
  have HB3 := Lib.hid (Below.onto hb3 HB2.out)
  clear hb3 x0 x1 x2 x3 x4 x5 x6
  obtain ⟨W4, hW4⟩ : ∃ W, w3.alloc (.cells #[.int .i64 x, .int .i64 t, .int .i64 xw, .int .i64 th] 52) = W := ⟨_, rfl⟩
  obtain ⟨bR, hbR⟩ : ∃ b, w3.heap.size = b := ⟨_, rfl⟩
  have hb4 : Below w3.heap.size w3 W4 := by rw [← hW4]; exact (Below.refl _ _).alloc (Nat.le_refl _) _
  have g2 : W4.heap[bR]? = some (.cells #[.int .i64 x, .int .i64 t, .int .i64 xw, .int .i64 th] 52 (0, 0)) := by rw [← hW4, ← hbR]; exact heap_alloc_new w3 _
  have HS4 := Lib.hid (HS3.out.below hb4 (Nat.le_refl _))
  have HR1 := Lib.hid (keepB hr1 hb4)
  have HB4 := Lib.hid (Below.onto hb4 HB3.out)
  have HG2 := Lib.hid g2
  have HW4 := Lib.hid hW4
  have HBR := Lib.hid hbR
  have hal : b0 < w3.heap.size := (Array.getElem?_eq_some_iff.1 hr0).1
  obtain ⟨x0, x1, x2, x3, x4, x5, x6⟩ := boxP hr0
  clear hr1 hW4 hbR hb4 g2 hr0
  go_wp2_with (first
    | ((with_reducible refine store_new (dst := none) 52 (.tmp 5) (.tmp 8) w3 _ #[.int .i64 x, .int .i64 t, .int .i64 xw, .int .i64 th] 52 rfl ?_ ?_ ?_ ?_ ?_ ?_); rfl; rfl; exact rectInfo; rfl; (simp [Value.oneCell'])))
  rw [HW4.out, HBR.out]
  refine (HPU.out W4 HS4.out (by have := HB4.out.size; omega)).mono ?_
  rintro e w5 ⟨rfl, hs5, ht5⟩
  have hr1 := SpTouch.keepT ht5 HS4.out HR1.out (by decide) (by decide) (by decide) (by decide)
  have hg2 := SpTouch.keepT ht5 HS4.out HG2.out (by decide) (by decide) (by decide) (by decide)
  have HS5 := Lib.hid hs5
  have HT5 := Lib.hid ((SpTouch.of_below HB4.out).trans ht5)
  have HR5 := Lib.hid hr1
  have u0 : w5.cell? ⟨bR, 0, none⟩ = some (.int .i64 x) := cell_of_row w5 bR 0 _ _ (0, 0) hg2
  have u1 : w5.cell? ⟨bR, 1, none⟩ = some (.int .i64 t) := cell_of_row w5 bR 1 _ _ (0, 0) hg2
  have u2 : w5.cell? ⟨bR, 2, none⟩ = some (.int .i64 xw) := cell_of_row w5 bR 2 _ _ (0, 0) hg2
  have u3 : w5.cell? ⟨bR, 3, none⟩ = some (.int .i64 th) := cell_of_row w5 bR 3 _ _ (0, 0) hg2
  clear hs5 ht5 hr1 hg2 x0 x1 x2 x3 x4 x5 x6 hal
  go_wp2_with (first
    | ((with_reducible refine store_row (dst := none) 52 (.tmp 4) (.tmp 14) (b0 + 1) _ #[.int .i64 x, .int .i64 t, .int .i64 xw, .int .i64 th] 52 HR5.out ?_ ?_ ?_ ?_ ?_ ?_); rfl; rfl; exact rectInfo; rfl; (simp [Value.oneCell']); intro w6 hw6 hg6 hz7; have HW6 := Lib.hid hw6; have HG6 := Lib.hid hg6; clear hw6 hg6))
  have d0 := cell_of_row w6 (b0 + 1) 0 _ _ (0, 0) HW6.out
  have d1 := cell_of_row w6 (b0 + 1) 1 _ _ (0, 0) HW6.out
  have d2 := cell_of_row w6 (b0 + 1) 2 _ _ (0, 0) HW6.out
  have d3 := cell_of_row w6 (b0 + 1) 3 _ _ (0, 0) HW6.out
  refine bodyPost_ret (v := .agg #[.int .i64 x, .int .i64 t, .int .i64 xw, .int .i64 th]) (by simp [results, Try.results44, go_sem, d0, d1, d2, d3]) rfl ⟨rfl, HS5.out.offP HG6.out HR5.out (by decide) (by decide) (by decide) (by decide), ?_⟩
  refine ⟨⟨HG6.out.os.trans HT5.out.1.1, HG6.out.tape.trans HT5.out.1.2.1, HG6.out.output.trans HT5.out.1.2.2.1, Nat.le_trans HT5.out.1.2.2.2 HG6.out.size⟩, fun k hk hc => ?_⟩
  have h1 := HT5.out.1.2.2.2
  have hbb := HBB.out
  exact (HG6.out.block k (by omega) (fun e => by injection e with e; omega)).trans (HT5.out.2 k hk hc)
end Go.Proofs.Ytecojcdmigmnhaa
