/- Place: Find. (Printed by wip/gen_p3.py.) -/
import Derived.Test.YtecojcdmigmnhaaP2
import Derived.Test.YtecojcdmigmnhaaRo
import Derived.Test.YtecojcdmigmnhaaSpf
namespace Go.Proofs.Ytecojcdmigmnhaa
set_option linter.unusedSimpArgs false
set_option linter.unusedVariables false
open Go.RowKit
/-- The number that Find's closure leaves. -/
def lfP (L : List Fo) (q : Wp) (y : Int) : Int := if soP L q y = true then leftP L q y else 0
def F1Post (L : List Fo) (q : Wp) (y : Int) (kb : Nat) (w : World) (e : Ending) (w' : World) : Prop :=
  e = .returned (.bool (soP L q y)) ∧ w'.heap[kb]? = some (.cells #[.int .i64 (lfP L q y)] 3 (0, 0)) ∧ w.grownBy w' (some kb)
set_option maxRecDepth 20000 in
set_option maxHeartbeats 2000000 in
theorem find1_any (L : List Fo) (q : Wp) (y lf : Int) (base sp b0 b1 kb : Nat) (T0 : TypeId) (w : World) (h : SpaceIs w base sp L) (hn : nearB L = true) (hl : L.length ≤ 100000) (hq : okWp q = true) (hy : -4503599627370496 ≤ y ∧ y ≤ 2251799813685248)
    (g0 : w.heap[b0]? = some (.cells #[.pointer (some ⟨sp, 0, none⟩)] T0 (0, 0))) (g1 : w.heap[b1]? = some (.cells #[.int .i64 q.s, .int .i64 q.c, .int .i64 q.a, .int .i64 q.b, .int .i64 q.wd, .int .i64 q.h, .int .i64 q.y] 90 (0, 0))) (g2 : w.heap[kb]? = some (.cells #[.int .i64 lf] 3 (0, 0))) :
    Calls Try.prog 100 #[.int .i64 y, .pointer (some ⟨b0, 0, none⟩), .pointer (some ⟨b1, 0, none⟩), .pointer (some ⟨kb, 0, none⟩)] w (F1Post L q y kb w) := by
  have hat := fun w h => placeAt_any L q y base sp w h hn hl hq hy
  unfold PAtPost at hat
  unfold F1Post lfP
  obtain ⟨so, hso⟩ : ∃ s, soP L q y = s := ⟨_, rfl⟩
  rw [hso] at hat ⊢
  obtain ⟨x, hx⟩ : ∃ n, (if so = true then leftP L q y else 0) = n := ⟨_, rfl⟩
  rw [hx] at hat ⊢
  have HAT := Lib.hid hat
  have HS := Lib.hid h
  have G2 := Lib.hid g2
  have c0 : w.cell? ⟨b0, 0, none⟩ = some (.pointer (some ⟨sp, 0, none⟩)) := cell_of_row w b0 0 _ _ (0, 0) g0
  obtain ⟨x0, x1, x2, x3, x4, x5, x6⟩ := boxP g1
  clear hat h hn hl hq hso hx g0 g1 g2 hy
  go_enter Try.func100, Try.ntmps100
  go_wp2_with fail
  refine (HAT.out w HS.out).mono ?_
  rintro e w1 ⟨rfl, hb1⟩
  have hk := keepB G2.out hb1
  have k0 : w1.cell? ⟨kb, 0, none⟩ = some (.int .i64 lf) := cell_of_row w1 kb 0 _ _ (0, 0) hk
  have f0 := frozen_of_row w1 kb 0 _ _ hk
  have h3 : (w1.setCell ⟨kb, 0, none⟩ (.int .i64 x)).heap[kb]? = some (.cells #[.int .i64 x] 3 (0, 0)) := heap_setCell_same w1 kb 0 _ _ _ hk
  have hg : w1.grownBy (w1.setCell ⟨kb, 0, none⟩ (.int .i64 x)) (some kb) := grown_setCells kb [.int .i64 x] 0 w1
  have H3 := Lib.hid h3
  have HG := Lib.hid (show w.grownBy (w1.setCell ⟨kb, 0, none⟩ (.int .i64 x)) (some kb) from grown_trans (grown_of_below hb1 _) hg)
  clear hb1 hk h3 hg c0 x0 x1 x2 x3 x4 x5 x6
  go_wp2_with fail
  go_ret
  exact ⟨rfl, H3.out, HG.out⟩
/-- The rectangle that a float gets. -/
def PFindPost (L : List Fo) (q : Wp) (w : World) (e : Ending) (w' : World) : Prop :=
  e = .returned (.agg #[.int .i64 (leftP L q (topP L q)), .int .i64 (topP L q), .int .i64 (leftP L q (topP L q) + q.wd), .int .i64 (topP L q + q.h)]) ∧ Below w.heap.size w w'
/-- What holds while Find looks. -/
def PfInv (L : List Fo) (q : Wp) (kb : Nat) (w : World) (A : List Int) (w' : World) : Prop :=
  Below kb w w' ∧ w.heap.size ≤ w'.heap.size ∧ ∃ lf, w'.heap[kb]? = some (.cells #[.int .i64 lf] 3 (0, 0)) ∧ ∀ y, A.getLast? = some y → lf = lfP L q y
theorem tops_rangeP {L : List Fo} (h : nearB L = true) : ∀ s ∈ full (shelves L), -4503599627370496 ≤ s.t ∧ s.t ≤ 2251799813685248 := fun s hs => by
  rcases List.mem_cons.1 hs with rfl | hs
  · decide
  · obtain ⟨f, hf, e⟩ := tops_in L s hs
    obtain ⟨_, g1, _, g3, _⟩ := nearF_at (nearB_at h f hf)
    rcases e with e | e <;> (rw [e]; omega)
theorem cf_find1 : ∀ (a : Array Value) (w : World), Sem.run Try.prog (callFunc 100 a) w = .ok (.enter 100 a) w := fun a w => by kernel_rfl
set_option maxRecDepth 20000 in
set_option maxHeartbeats 4000000 in
theorem find_any11 (L : List Fo) (q : Wp) (base sp : Nat) (w : World) (h : SpaceIs w base sp L) (hn : nearB L = true) (hl : L.length ≤ 100000) (hq : okWp q = true) :
    Calls Try.prog 74 #[.pointer (some ⟨sp, 0, none⟩), .agg #[.int .i64 q.s, .int .i64 q.c, .int .i64 q.a, .int .i64 q.b, .int .i64 q.wd, .int .i64 q.h, .int .i64 q.y]] w (PFindPost L q w) := by
  have hok : SpOk L := ⟨near_low hn, hl⟩
  have hsd : ∀ f ∈ L, f.s = 1 ∨ f.s = 2 := fun f hf => (nearF_at (nearB_at hn f hf)).2.2.2.2
  obtain ⟨⟨ia, ib, iw, ih, iy⟩, i0⟩ := okWp_at hq
  unfold in48 at iw ih
  obtain ⟨b0, hb0⟩ : ∃ b, w.heap.size = b := ⟨_, rfl⟩
  obtain ⟨W4, hW4⟩ : ∃ W, (((w.alloc (.cells #[.pointer (some ⟨sp, 0, none⟩)] 34)).alloc (.cells #[.int .i64 q.s, .int .i64 q.c, .int .i64 q.a, .int .i64 q.b, .int .i64 q.wd, .int .i64 q.h, .int .i64 q.y] 90)).alloc (.cells #[.int .i64 0, .int .i64 0, .int .i64 0, .int .i64 0] 52)).alloc (.cells #[.int .i64 0] 3) = W := ⟨_, rfl⟩
  have hs4 : W4.heap.size = b0 + 4 := by rw [← hW4, ← hb0]; simp
  have r0 : W4.heap[b0]? = some (.cells #[.pointer (some ⟨sp, 0, none⟩)] 34 (0, 0)) := by rw [← hW4, ← hb0, heap_alloc_old _ _ (by first | (simp; done) | (simp; omega)), heap_alloc_old _ _ (by first | (simp; done) | (simp; omega)), heap_alloc_old _ _ (by first | (simp; done) | (simp; omega)), heap_alloc_new]
  have r1 : W4.heap[b0 + 1]? = some (.cells #[.int .i64 q.s, .int .i64 q.c, .int .i64 q.a, .int .i64 q.b, .int .i64 q.wd, .int .i64 q.h, .int .i64 q.y] 90 (0, 0)) := by rw [← hW4, ← hb0, heap_alloc_old _ _ (by first | (simp; done) | (simp; omega)), heap_alloc_old _ _ (by first | (simp; done) | (simp; omega))]; exact heap_alloc2_new w _ _
  have r2 : W4.heap[b0 + 1 + 1]? = some (.cells #[.int .i64 0, .int .i64 0, .int .i64 0, .int .i64 0] 52 (0, 0)) := by
    rw [← hW4, ← hb0, heap_alloc_old _ _ (by simp)]
    have h := heap_alloc_new ((w.alloc (.cells #[.pointer (some ⟨sp, 0, none⟩)] 34)).alloc (.cells #[.int .i64 q.s, .int .i64 q.c, .int .i64 q.a, .int .i64 q.b, .int .i64 q.wd, .int .i64 q.h, .int .i64 q.y] 90)) (.cells #[.int .i64 0, .int .i64 0, .int .i64 0, .int .i64 0] 52)
    simpa using h
  have r3 : W4.heap[b0 + 1 + 1 + 1]? = some (.cells #[.int .i64 0] 3 (0, 0)) := by
    rw [← hW4, ← hb0]
    have h := heap_alloc_new (((w.alloc (.cells #[.pointer (some ⟨sp, 0, none⟩)] 34)).alloc (.cells #[.int .i64 q.s, .int .i64 q.c, .int .i64 q.a, .int .i64 q.b, .int .i64 q.wd, .int .i64 q.h, .int .i64 q.y] 90)).alloc (.cells #[.int .i64 0, .int .i64 0, .int .i64 0, .int .i64 0] 52)) (.cells #[.int .i64 0] 3)
    simpa using h
  have hB4 : Below w.heap.size w W4 := by rw [← hW4]; exact ((((Below.refl _ _).alloc (Nat.le_refl _) _).alloc (by simp) _).alloc (by first | (simp; done) | (simp; omega)) _).alloc (by first | (simp; done) | (simp; omega)) _
  have hsp : ∀ w', Below (b0 + 1 + 1 + 1) W4 w' → SpaceIs w' base sp L := fun w' hb => h.below (hB4.trans (hb.mono (by omega))) (Nat.le_refl _)
  have hst := fun w h => start_any L q base sp w h hsd
  have hsi := startP_in hn hq
  have hft := fun (y lf : Int) (w : World) h g0 g1 g2 hy => find1_any L q y lf base sp b0 (b0 + 1) (b0 + 1 + 1 + 1) 34 w h hn hl hq hy g0 g1 g2
  unfold F1Post at hft
  have hfi := fun (w1 : World) hinv => first_any L (soP L q) 100 #[.pointer (some ⟨b0, 0, none⟩), .pointer (some ⟨b0 + 1, 0, none⟩), .pointer (some ⟨b0 + 1 + 1 + 1, 0, none⟩)] base sp (PfInv L q (b0 + 1 + 1 + 1) W4) (fun y => -4503599627370496 ≤ y ∧ y ≤ 2251799813685248)
    (fun y w => cf_find1 _ w) (fun _ w' h => hsp w' h.1)
    (fun A w2 w3 h hb => by
      obtain ⟨h1, h2, lf, h3, h4⟩ := h
      exact ⟨h1.trans (hb.mono (by omega)), Nat.le_trans h2 hb.size, lf, keepB h3 hb, h4⟩)
    (fun A y w2 h hy => by
      obtain ⟨h1, h2, lf, h3, h4⟩ := h
      refine (hft y lf w2 (hsp w2 h1) ((h1.block b0 (by omega)).trans r0) ((h1.block (b0 + 1) (by omega)).trans r1) h3 hy).mono ?_
      rintro e w3 ⟨rfl, h5, hg⟩
      refine ⟨rfl, h1.grown hg (by omega) (fun k hk => by injection hk with hk; omega), Nat.le_trans h2 hg.size, _, h5, fun y' e => by simp at e; rw [e]⟩)
    hok (startP L q) (by omega) (tops_rangeP hn) w1 hinv
  unfold FirstPost at hfi
  have htop : firstL (soP L q) (startP L q) (rest (full (shelves L)) (startP L q)) = topP L q := rfl
  obtain ⟨A, hA⟩ := ask_last (soP L q) (rest (full (shelves L)) (startP L q)) (startP L q)
  rw [htop] at hA hfi
  have hti := topP_in hn hq
  have hso := (topP_first hn hq).2.1
  have hlf := leftP_in (y := topP L q) hn hq
  have hlp : lfP L q (topP L q) = leftP L q (topP L q) := by unfold lfP; rw [if_pos hso]
  unfold IntPost at hst
  unfold PFindPost
  obtain ⟨ask, hask⟩ : ∃ a, askL (soP L q) (startP L q) (rest (full (shelves L)) (startP L q)) = a := ⟨_, rfl⟩
  have hlas : ∀ A' w', PfInv L q (b0 + 1 + 1 + 1) W4 A' w' → A' = ask → w'.heap[b0 + 1 + 1 + 1]? = some (.cells #[.int .i64 (leftP L q (topP L q))] 3 (0, 0)) := by
    intro A' w' hi e
    obtain ⟨_, _, lf, h3, h4⟩ := hi
    rw [h3, h4 (topP L q) (by rw [e, ← hask, hA]; simp), hlp]
  rw [hask] at hfi
  obtain ⟨tp, htp⟩ : ∃ t, topP L q = t := ⟨_, rfl⟩
  obtain ⟨sv, hsv⟩ : ∃ t, startP L q = t := ⟨_, rfl⟩
  rw [htp] at hfi hti hlf hlas ⊢
  rw [hsv] at hfi hst
  obtain ⟨lv, hlv⟩ : ∃ t, leftP L q tp = t := ⟨_, rfl⟩
  rw [hlv] at hlf hlas ⊢
  have HFI := Lib.hid hfi
  have HST := Lib.hid hst
  have HSP := Lib.hid hsp
  have HLA := Lib.hid hlas
  have HW4 := Lib.hid hW4
  have HB0 := Lib.hid hb0
  have HB4 := Lib.hid hB4
  have HS4 := Lib.hid hs4
  have R0 := Lib.hid r0
  have R1 := Lib.hid r1
  have R2 := Lib.hid r2
  have R3 := Lib.hid r3
  have HK : Hid (∀ w', Below (b0 + 1 + 1 + 1) W4 w' → Below (b0 + 1 + 1 + 1) W4 w' ∧ w'.cell? ⟨b0, 0, none⟩ = some (.pointer (some ⟨sp, 0, none⟩)) ∧ w'.cell? ⟨b0 + 1, 0, none⟩ = some (.int .i64 q.s) ∧ w'.cell? ⟨b0 + 1, 1, none⟩ = some (.int .i64 q.c) ∧ w'.cell? ⟨b0 + 1, 2, none⟩ = some (.int .i64 q.a) ∧ w'.cell? ⟨b0 + 1, 3, none⟩ = some (.int .i64 q.b) ∧ w'.cell? ⟨b0 + 1, 4, none⟩ = some (.int .i64 q.wd) ∧ w'.cell? ⟨b0 + 1, 5, none⟩ = some (.int .i64 q.h) ∧ w'.cell? ⟨b0 + 1, 6, none⟩ = some (.int .i64 q.y)) := by
    intro w' hb
    exact ⟨hb, cell_of_row w' b0 0 _ _ (0, 0) ((hb.block b0 (by omega)).trans r0), boxP ((hb.block (b0 + 1) (by omega)).trans r1)⟩
  clear hfi hst hsp hlas hW4 hb0 hB4 hs4 r0 r1 r2 r3 hlp hA hask htop htp hsv hlv h hn hl hq hok hsd hft hso ia ib iy i0 hsi
  go_enter Try.func74, Try.ntmps74
  go_wp2_with fail
  rw [HW4.out, HB0.out]
  refine wp_region_held_drew (S := (fun w' => Below (b0 + 1 + 1 + 1) W4 w' ∧ w'.cell? ⟨b0, 0, none⟩ = some (.pointer (some ⟨sp, 0, none⟩)) ∧ w'.cell? ⟨b0 + 1, 0, none⟩ = some (.int .i64 q.s) ∧ w'.cell? ⟨b0 + 1, 1, none⟩ = some (.int .i64 q.c) ∧ w'.cell? ⟨b0 + 1, 2, none⟩ = some (.int .i64 q.a) ∧ w'.cell? ⟨b0 + 1, 3, none⟩ = some (.int .i64 q.b) ∧ w'.cell? ⟨b0 + 1, 4, none⟩ = some (.int .i64 q.wd) ∧ w'.cell? ⟨b0 + 1, 5, none⟩ = some (.int .i64 q.h) ∧ w'.cell? ⟨b0 + 1, 6, none⟩ = some (.int .i64 q.y))) (by kernel_rfl) (HK.out _ ((Below.refl _ _).drew)) (fun hHeld => ?_)
  refine wpAnyH_take (i := 0) (v := ?_) rfl (by kernel_rfl) (by kernel_rfl) (by kernel_rfl) (fun _ _ _ h => h) (Or.inl ⟨by rfl, ?_⟩) (by assumption) ?_
  rotate_left
  focus ((intro wS hSw; (try dsimp only at hSw); go_simp); (try (with_reducible rfl)))
  simp only [Act.put, List.getElem_toArray, List.getElem_cons_zero, List.getElem_cons_succ, List.setIfInBounds_toArray, List.set_cons_zero, List.set_cons_succ]
  refine wpAnyH_take (i := 1) (v := ?_) rfl (by kernel_rfl) (by kernel_rfl) (by kernel_rfl) (fun _ _ _ h => h) (Or.inl ⟨by rfl, ?_⟩) (by assumption) ?_
  rotate_left
  focus ((intro wS hSw; (try dsimp only at hSw); go_simp); (try (with_reducible rfl)))
  simp only [Act.put, List.getElem_toArray, List.getElem_cons_zero, List.getElem_cons_succ, List.setIfInBounds_toArray, List.set_cons_zero, List.set_cons_succ]
  refine wpAnyH_take (i := 2) (v := ?_) rfl (by kernel_rfl) (by kernel_rfl) (by kernel_rfl) (fun _ _ _ h => h) (Or.inl ⟨by rfl, ?_⟩) (by assumption) ?_
  rotate_left
  focus ((intro wS hSw; (try dsimp only at hSw); go_simp); (try (with_reducible rfl)))
  simp only [Act.put, List.getElem_toArray, List.getElem_cons_zero, List.getElem_cons_succ, List.setIfInBounds_toArray, List.set_cons_zero, List.set_cons_succ]
  refine wpAnyH_take (i := 4) (v := ?_) rfl (by kernel_rfl) (by kernel_rfl) (by kernel_rfl) (fun _ _ _ h => h) (Or.inl ⟨by rfl, ?_⟩) (by assumption) ?_
  rotate_left
  focus ((intro wS hSw; (try dsimp only at hSw); go_simp); (try (with_reducible rfl)))
  simp only [Act.put, List.getElem_toArray, List.getElem_cons_zero, List.getElem_cons_succ, List.setIfInBounds_toArray, List.set_cons_zero, List.set_cons_succ]
  refine wpAnyH_ready (rs := [3]) (by kernel_rfl) (by simp) ?_
  refine AllReadyH.cons rfl (fun K hK => ?_) AllReadyH.nil
  go_simp
  refine (HST.out _ (HSP.out _ ((Below.refl _ _).drew))).mono ?_
  rintro e y1 ⟨rfl, hbx⟩
  have hb1 : Below W4.heap.size W4 y1 := Below.drewL hbx
  have hE1 : Below (b0 + 1 + 1 + 1) W4 y1 := hb1.mono (by have := HS4.out; omega)
  have HE1 := Lib.hid hE1
  have HI1 : Hid (PfInv L q (b0 + 1 + 1 + 1) W4 [] y1) := ⟨hE1, hb1.size, 0, keepB R3.out hb1, fun y e => by simp at e⟩
  clear hbx hb1 hE1
  refine hK.out _ _ (HK.out _ HE1.out) (fun hHeld => ?_)
  clear hK K
  (try simp only [Act.put, List.getElem_toArray, List.getElem_cons_zero, List.getElem_cons_succ, List.setIfInBounds_toArray, List.set_cons_zero, List.set_cons_succ])
  refine wpAnyH_ready (rs := [5]) (by kernel_rfl) (by simp) ?_
  refine AllReadyH.cons rfl (fun K hK => ?_) AllReadyH.nil
  go_simp
  refine (HFI.out y1 HI1.out).mono ?_
  rintro e y2 ⟨rfl, hi2⟩
  have HL2 := Lib.hid (HLA.out _ _ hi2 rfl)
  have HE2 := Lib.hid hi2.1
  have HZ2 := Lib.hid hi2.2.1
  clear hi2
  refine hK.out _ _ (HK.out _ HE2.out) (fun hHeld => ?_)
  clear hK K
  (try simp only [Act.put, List.getElem_toArray, List.getElem_cons_zero, List.getElem_cons_succ, List.setIfInBounds_toArray, List.set_cons_zero, List.set_cons_succ])
  refine wpAnyH_take (i := 6) (v := ?_) rfl (by kernel_rfl) (by kernel_rfl) (by kernel_rfl) (fun _ _ _ h => h) (Or.inl ⟨by rfl, ?_⟩) (by assumption) ?_
  rotate_left
  focus ((intro wS hSw; (try dsimp only at hSw); go_simp); (try (with_reducible rfl)))
  simp only [Act.put, List.getElem_toArray, List.getElem_cons_zero, List.getElem_cons_succ, List.setIfInBounds_toArray, List.set_cons_zero, List.set_cons_succ]
  refine wpAnyH_done (by kernel_rfl) ?_ _
  clear hHeld
  have hr1 := (HE2.out.block (b0 + 1) (by omega)).trans R1.out
  have hr2 := (HE2.out.block (b0 + 1 + 1) (by omega)).trans R2.out
  have HR2 := Lib.hid hr2
  have HB2 := Lib.hid (show Below w.heap.size w y2 from HB4.out.trans (HE2.out.mono (by have := HB0.out; omega)))
  have hz2 : b0 + 4 ≤ y2.heap.size := by have := HS4.out; have := HZ2.out; omega
  obtain ⟨x0, x1, x2, x3, x4, x5, x6⟩ := boxP hr1
  have l0 : y2.cell? ⟨b0 + 1 + 1 + 1, 0, none⟩ = some (.int .i64 lv) := cell_of_row y2 (b0 + 1 + 1 + 1) 0 _ _ (0, 0) HL2.out
  clear hr1 hr2
  go_wp2_with fail
  refine (rof_any _ _ _ _ _).mono ?_
  rintro e w5 ⟨rfl, hb5⟩
  have R5 := Lib.hid (keepB HR2.out hb5)
  have HB5 := Lib.hid (HB2.out.trans (hb5.mono HB2.out.size))
  have hz6 : b0 + 4 ≤ w5.heap.size := by have h1 : y2.heap.size ≤ w5.heap.size := hb5.size; omega
  clear hb5
  go_wp2_with (first
    | ((with_reducible refine store_row (dst := none) 52 (.tmp 4) (.tmp 25) (b0 + 1 + 1) _ #[.int .i64 lv, .int .i64 tp, .int .i64 (lv + q.wd), .int .i64 (tp + q.h)] 52 R5.out ?_ ?_ ?_ ?_ ?_ ?_); rfl; rfl; exact rectInfo; rfl; (simp [Value.oneCell']); intro w6 hw6 hg6 hz7; have HW6 := Lib.hid hw6; have HG6 := Lib.hid hg6; clear hw6 hg6))
  have d0 := cell_of_row w6 (b0 + 1 + 1) 0 _ _ (0, 0) HW6.out
  have d1 := cell_of_row w6 (b0 + 1 + 1) 1 _ _ (0, 0) HW6.out
  have d2 := cell_of_row w6 (b0 + 1 + 1) 2 _ _ (0, 0) HW6.out
  have d3 := cell_of_row w6 (b0 + 1 + 1) 3 _ _ (0, 0) HW6.out
  refine bodyPost_ret (v := .agg #[.int .i64 lv, .int .i64 tp, .int .i64 (lv + q.wd), .int .i64 (tp + q.h)]) (by simp [results, Try.results74, go_sem, d0, d1, d2, d3]) rfl ⟨rfl, HB5.out.grown HG6.out (by have := HB0.out; omega) (fun k hk => by have := HB0.out; simp at hk; omega)⟩
end Go.Proofs.Ytecojcdmigmnhaa
