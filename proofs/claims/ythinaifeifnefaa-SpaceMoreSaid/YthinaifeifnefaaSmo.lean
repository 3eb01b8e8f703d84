/- The law SpaceMore. -/
import Derived.Test.YthinaifeifnefaaSpF
import Derived.Test.YthinaifeifnefaaFa
namespace Go.Proofs.Ythinaifeifnefaa
set_option linter.unusedSimpArgs false
set_option linter.unusedVariables false
open Go.RowKit
theorem bandN_same (l l' : List Fo) (y : Int) : ∀ n : Nat, (∀ z, y ≤ z → z < y + n → bnd l z = bnd l' z) → bandN l y n = bandN l' y n
  | 0, _ => rfl
  | n + 1, h => by
    unfold bandN
    rw [bandN_same l l' y n (fun z h1 h2 => h z h1 (by omega)), h (y + n) (by omega) (by omega)]
theorem band_above (L : List Fo) (f : Fo) (y yb : Int) (h : yb ≤ f.y0) : band (L ++ [f]) y yb = band L y yb := by
  unfold band
  apply bandN_same
  intro z h1 h2
  rw [bnd_snoc]
  exact put1_miss (fun hh => by have := hh.2.1; omega) _
def in49 (n : Int) : Prop := -562949953421312 ≤ n ∧ n ≤ 562949953421312
theorem more_cases (y h : Int) : (decide (562949953421312 < y) = true) ∨ (decide (562949953421312 < y) = false ∧ decide (y < -562949953421312) = true) ∨ (decide (562949953421312 < y) = false ∧ decide (y < -562949953421312) = false ∧ decide (562949953421312 < h) = true) ∨ (decide (562949953421312 < y) = false ∧ decide (y < -562949953421312) = false ∧ decide (562949953421312 < h) = false ∧ decide (h < -562949953421312) = true) ∨
    (decide (562949953421312 < y) = false ∧ decide (y < -562949953421312) = false ∧ decide (562949953421312 < h) = false ∧ decide (h < -562949953421312) = false ∧ in49 y ∧ in49 h) := by
  unfold in49
  by_cases h1 : 562949953421312 < y
  · left; exact decide_eq_true h1
  · right
    by_cases h2 : y < -562949953421312
    · left; exact ⟨decide_eq_false h1, decide_eq_true h2⟩
    · right
      by_cases h3 : 562949953421312 < h
      · left; exact ⟨decide_eq_false h1, decide_eq_false h2, decide_eq_true h3⟩
      · right
        by_cases h4 : h < -562949953421312
        · left; exact ⟨decide_eq_false h1, decide_eq_false h2, decide_eq_false h3, decide_eq_true h4⟩
        · right; exact ⟨decide_eq_false h1, decide_eq_false h2, decide_eq_false h3, decide_eq_false h4, ⟨by omega, by omega⟩, by omega, by omega⟩
theorem isFos_one {w : World} {b : Nat} {f : Fo} (h : w.heap[b]? = some (.cells #[.int .i64 f.s, .int .i64 f.x0, .int .i64 f.y0, .int .i64 f.x1, .int .i64 f.y1] 45 (0, 0))) : IsFos w (.slice (some ⟨b, 0, none⟩) 1 1) [f] := by
  refine ⟨_, 1, rfl, by simp, fun _ => ⟨b, 0, rfl, (Array.getElem?_eq_some_iff.1 h).1, fun k hk j u hu => ?_⟩⟩
  have hk0 : k = 0 := by simp at hk; exact hk
  subst hk0
  rw [cell_of_row w b (0 + 0 * 5 + j) _ _ (0, 0) h, ← hu]
  simp [foC, foAt]
theorem lit_second {base : Nat} (W : World) (o : Obj) (h : base ≤ W.heap.size) : ((W.alloc o).alloc (.cells #[] 45)).ownsRow base 45 5 (.slice (some ⟨W.heap.size + 1, 0, none⟩) 0 0) 0 (flat foC []) := by
  have h2 := World.ownsRow_lit (base := base) (e := 45) (size := 5) (W.alloc o) #[] 0 (by simp; omega) (by decide) rfl
  have e : (W.alloc o).heap.size = W.heap.size + 1 := by simp
  rw [e] at h2
  exact h2
set_option maxRecDepth 20000 in
set_option maxHeartbeats 8000000 in
theorem spaceMore_any (L : List Fo) (v : Value) (f : Fo) (y hi : Int) (w : World) (h : IsFos w v L) (hn : L.length ≤ maxLen) (hR : L.length * 40 ≤ 140737488351232) : Calls Try.prog 14 #[v, .agg #[.int .i64 f.s, .int .i64 f.x0, .int .i64 f.y0, .int .i64 f.x1, .int .i64 f.y1], .int .i64 y, .int .i64 hi] w fun e w' => e = .returned (.bool true) ∧ Below w.heap.size w w' := by
  obtain ⟨A, cap0, rfl, hx1, hx2⟩ := id h
  clear hx1 hx2
  obtain ⟨bF, hbF⟩ : ∃ b, w.heap.size = b := ⟨_, rfl⟩
  obtain ⟨W1, hW1⟩ : ∃ W, w.alloc (.cells #[.int .i64 f.s, .int .i64 f.x0, .int .i64 f.y0, .int .i64 f.x1, .int .i64 f.y1] 45) = W := ⟨_, rfl⟩
  have hb1 : Below w.heap.size w W1 := by rw [← hW1]; exact (Below.refl _ _).alloc (Nat.le_refl _) _
  have hbx : W1.heap[bF]? = some (.cells #[.int .i64 f.s, .int .i64 f.x0, .int .i64 f.y0, .int .i64 f.x1, .int .i64 f.y1] 45 (0, 0)) := by rw [← hW1, ← hbF]; exact heap_alloc_new w _
  have hbl := (Array.getElem?_eq_some_iff.1 hbx).1
  have hk : ∀ w' : World, w'.heap[bF]? = W1.heap[bF]? → (w'.cell? ⟨bF, 0, none⟩ = some (.int .i64 f.s) ∧ w'.cell? ⟨bF, 1, none⟩ = some (.int .i64 f.x0) ∧ w'.cell? ⟨bF, 2, none⟩ = some (.int .i64 f.y0) ∧ w'.cell? ⟨bF, 3, none⟩ = some (.int .i64 f.x1) ∧ w'.cell? ⟨bF, 4, none⟩ = some (.int .i64 f.y1)) := fun w' e =>
    have h := e.trans hbx
    ⟨cell_of_row w' bF 0 _ _ (0, 0) h, cell_of_row w' bF 1 _ _ (0, 0) h, cell_of_row w' bF 2 _ _ (0, 0) h, cell_of_row w' bF 3 _ _ (0, 0) h, cell_of_row w' bF 4 _ _ (0, 0) h⟩
  have hfo : ∀ W, Below W1.heap.size W1 W → IsFos W (.slice A L.length cap0) L := fun W hW => (h.below hb1 (Nat.le_refl _)).below hW (Nat.le_refl _)
  have HK := Lib.hid hk
  have HFO := Lib.hid hfo
  have HW1 := Lib.hid hW1
  have HBF := Lib.hid hbF
  have HB1 := Lib.hid hb1
  have HBX := Lib.hid hbx
  have HH := Lib.hid h
  have HR := Lib.hid hR
  have HN := Lib.hid hn
  have hsz : w.heap.size ≤ W1.heap.size := hb1.size
  clear hk hfo hW1 hbF hb1 hbx h hR hn
  go_enter Try.func14, Try.ntmps14
  go_wp2_with fail
  rw [HW1.out, HBF.out]
  go_cut [9] (fun v9 wc => IsFos wc v9 (L ++ [f]) ∧ wc.heap[bF]? = W1.heap[bF]? ∧ Below w.heap.size w wc)
  case first =>
    /- GENMORE -/
    refine wp_region_held_drew (S := (fun w' => w'.cell? ⟨bF, 0, none⟩ = some (.int .i64 f.s) ∧ w'.cell? ⟨bF, 1, none⟩ = some (.int .i64 f.x0) ∧ w'.cell? ⟨bF, 2, none⟩ = some (.int .i64 f.y0) ∧ w'.cell? ⟨bF, 3, none⟩ = some (.int .i64 f.x1) ∧ w'.cell? ⟨bF, 4, none⟩ = some (.int .i64 f.y1))) (by kernel_rfl) (HK.out _ rfl) (fun hHeld => ?_)
    refine wpAnyH_take (i := 1) (v := ?_) rfl (by kernel_rfl) (by kernel_rfl) (by kernel_rfl) (fun _ _ _ h => h) (Or.inl ⟨by rfl, ?_⟩) (by assumption) ?_
    rotate_left
    focus ((intro wS hSw; (try dsimp only at hSw); go_simp); (try (with_reducible rfl)))
    simp only [Act.put, List.getElem_toArray, List.getElem_cons_zero, List.getElem_cons_succ, List.setIfInBounds_toArray, List.set_cons_zero, List.set_cons_succ]
    refine wpAnyH_take (i := 3) (v := ?_) rfl (by kernel_rfl) (by kernel_rfl) (by kernel_rfl) (fun _ _ _ h => h) (Or.inl ⟨by rfl, ?_⟩) (by assumption) ?_
    rotate_left
    focus ((intro wS hSw; (try dsimp only at hSw); go_simp); (try (with_reducible rfl)))
    simp only [Act.put, List.getElem_toArray, List.getElem_cons_zero, List.getElem_cons_succ, List.setIfInBounds_toArray, List.set_cons_zero, List.set_cons_succ]
    refine wpAnyH_ready (rs := [0, 4]) (by kernel_rfl) (by simp) ?_
    refine AllReadyH.cons rfl (fun K hK => ?_) ?_
    · skip
      go_simp
      refine hK.out _ _ (HK.out _ (heap_alloc_old W1 _ hbl)) (fun hHeld => ?_)
      clear hK K
      (try simp only [Act.put, List.getElem_toArray, List.getElem_cons_zero, List.getElem_cons_succ, List.setIfInBounds_toArray, List.set_cons_zero, List.set_cons_succ])
      refine wpAnyH_ready (rs := [2, 4]) (by kernel_rfl) (by simp) ?_
      refine AllReadyH.cons rfl (fun K hK => ?_) ?_
      · skip
        refine step_append_fos (by rfl) (.tmp 18) (.tmp 19) (by rfl) (.slice (some ⟨W1.heap.size, 0, none⟩) 0 0) (.slice A L.length cap0) (by rfl) (by rfl) w.heap.size 0 [] L (World.ownsRow_lit W1 #[] 0 hsz (by decide) rfl) (HFO.out _ (by (repeat (first | exact Below.refl _ _ | (refine Below.alloc ?_ (by first | omega | (simp; done) | (simp; omega)) _) | (refine Below.on (by assumption) ?_ (by first | omega | (simp; done) | (simp; omega))) | (refine Below.grown ?_ (by assumption) (by first | omega | (simp; done) | (simp; omega)) (by intro k hk; cases hk)) | refine Below.drew ?_)))) (by have := HR.out; omega) (by simp; omega) ?_
        intro v6 w6 ho6 hg6 ha6
        have hx6 : w6.heap[bF]? = W1.heap[bF]? := (hg6.block bF (by simp; omega) (by simp [Value.ownBlock]; omega)).trans (show ((W1.alloc (.cells #[] 45)).drew).heap[bF]? = W1.heap[bF]? from heap_alloc_old W1 _ hbl)
        have hs6 : W1.heap.size < w6.heap.size := by have := hg6.size; simp at this; omega
        have hB6 : Below w.heap.size w w6 := Below.grown (w := (W1.alloc (.cells #[] 45)).drew) (by (repeat (first | exact Below.refl _ _ | (refine Below.alloc ?_ (by first | omega | (simp; done) | (simp; omega)) _) | (refine Below.on (by assumption) ?_ (by first | omega | (simp; done) | (simp; omega))) | (refine Below.grown ?_ (by assumption) (by first | omega | (simp; done) | (simp; omega)) (by intro k hk; cases hk)) | refine Below.drew ?_))) hg6 (by simp; omega) (by intro k hk; simp [Value.ownBlock] at hk; omega)
        have HO6 := Lib.hid ho6
        have HX6 := Lib.hid hx6
        have HB6 := Lib.hid hB6
        have HA6 := Lib.hid ha6
        clear ho6 hg6 ha6 hB6
        refine hK.out _ _ (HK.out _ (hx6)) (fun hHeld => ?_)
        clear hK K
        (try simp only [Act.put, List.getElem_toArray, List.getElem_cons_zero, List.getElem_cons_succ, List.setIfInBounds_toArray, List.set_cons_zero, List.set_cons_succ])
        refine wpAnyH_ready (rs := [4]) (by kernel_rfl) (by simp) ?_
        refine AllReadyH.cons rfl (fun K hK => ?_) AllReadyH.nil
        go_simp
        refine hK.out _ _ (HK.out _ ((heap_alloc_old w6 _ (by omega)).trans HX6.out)) (fun hHeld => ?_)
        clear hK K
        (try simp only [Act.put, List.getElem_toArray, List.getElem_cons_zero, List.getElem_cons_succ, List.setIfInBounds_toArray, List.set_cons_zero, List.set_cons_succ])
        clear hx6
        refine wpAnyH_ready (rs := [5]) (by kernel_rfl) (by simp) ?_
        refine AllReadyH.cons rfl (fun K hK => ?_) AllReadyH.nil
        refine step_append_fos (by rfl) (.tmp 20) (.tmp 22) (by rfl) v6 (.slice (some ⟨w6.heap.size, 0, none⟩) 1 1) (by rfl) (by rfl) w.heap.size (0 + L.length) ([] ++ L) [f] (own_below HO6.out ((Below.refl _ _).alloc (Nat.le_refl _) _)) (isFos_one (heap_alloc_new w6 _)) (by have := HR.out; simp; omega) (by simp; omega) ?_
        intro v7 w7 ho7 hg7 ha7
        have hne7 : v6.ownBlock ≠ some bF := by intro e; rcases HA6.out with h | h <;> (rw [h] at e; simp [Value.ownBlock] at e; omega)
        have hx7 : w7.heap[bF]? = W1.heap[bF]? := (hg7.block bF (by simp; omega) (Ne.symm hne7)).trans ((heap_alloc_old w6 _ (by omega)).trans HX6.out)
        have hB7 : Below w.heap.size w w7 := Below.grown (w := w6.alloc (.cells #[.int .i64 f.s, .int .i64 f.x0, .int .i64 f.y0, .int .i64 f.x1, .int .i64 f.y1] 45)) (HB6.out.alloc (by omega) _) hg7 (by first | omega | (simp; omega)) (by intro k hk; rcases HA6.out with h | h <;> (rw [h] at hk; simp [Value.ownBlock] at hk; omega))
        have hI7 : IsFos w7 v7 (L ++ [f]) := isFos_of_own (L := L ++ [f]) (by simpa using ho7) (by simp)
        refine hK.out _ _ (HK.out _ (hx7)) (fun hHeld => ?_)
        clear hK K
        (try simp only [Act.put, List.getElem_toArray, List.getElem_cons_zero, List.getElem_cons_succ, List.setIfInBounds_toArray, List.set_cons_zero, List.set_cons_succ])
        refine wpAnyH_take (i := 6) (v := ?_) rfl (by kernel_rfl) (by kernel_rfl) (by kernel_rfl) (fun _ _ _ h => h) (Or.inl ⟨by rfl, ?_⟩) (by assumption) ?_
        rotate_left
        focus ((intro wS hSw; (try dsimp only at hSw); go_simp); (try (with_reducible rfl)))
        simp only [Act.put, List.getElem_toArray, List.getElem_cons_zero, List.getElem_cons_succ, List.setIfInBounds_toArray, List.set_cons_zero, List.set_cons_succ]
        refine wpAnyH_done (by kernel_rfl) ?_ _
        clear hHeld
        have HI7 := Lib.hid (And.intro hI7 (And.intro hx7 hB7))
        clear hI7 hx7 hB7 ho7 hg7 ha7 hne7
        go_wp2_with fail
        go_meet
        case rel => exact HI7.out
      · refine AllReadyH.cons rfl (fun K hK => ?_) AllReadyH.nil
        go_simp
        refine hK.out _ _ (HK.out _ ((heap_alloc_old _ _ (by simp; omega)).trans (heap_alloc_old W1 _ hbl))) (fun hHeld => ?_)
        clear hK K
        (try simp only [Act.put, List.getElem_toArray, List.getElem_cons_zero, List.getElem_cons_succ, List.setIfInBounds_toArray, List.set_cons_zero, List.set_cons_succ])
        refine wpAnyH_ready (rs := [2]) (by kernel_rfl) (by simp) ?_
        refine AllReadyH.cons rfl (fun K hK => ?_) AllReadyH.nil
        refine step_append_fos (by rfl) (.tmp 18) (.tmp 19) (by rfl) (.slice (some ⟨W1.heap.size, 0, none⟩) 0 0) (.slice A L.length cap0) (by rfl) (by rfl) w.heap.size 0 [] L (own_below (World.ownsRow_lit W1 #[] 0 hsz (by decide) rfl) (by (repeat (first | exact Below.refl _ _ | (refine Below.alloc ?_ (by first | omega | (simp; done) | (simp; omega)) _) | (refine Below.on (by assumption) ?_ (by first | omega | (simp; done) | (simp; omega))) | (refine Below.grown ?_ (by assumption) (by first | omega | (simp; done) | (simp; omega)) (by intro k hk; cases hk)) | refine Below.drew ?_)))) (HFO.out _ (by (repeat (first | exact Below.refl _ _ | (refine Below.alloc ?_ (by first | omega | (simp; done) | (simp; omega)) _) | (refine Below.on (by assumption) ?_ (by first | omega | (simp; done) | (simp; omega))) | (refine Below.grown ?_ (by assumption) (by first | omega | (simp; done) | (simp; omega)) (by intro k hk; cases hk)) | refine Below.drew ?_)))) (by have := HR.out; omega) (by simp; omega) ?_
        intro v6 w6 ho6 hg6 ha6
        have hx6 : w6.heap[bF]? = W1.heap[bF]? := (hg6.block bF (by simp; omega) (by simp [Value.ownBlock]; omega)).trans (show (((W1.alloc (.cells #[] 45)).alloc (.cells #[.int .i64 f.s, .int .i64 f.x0, .int .i64 f.y0, .int .i64 f.x1, .int .i64 f.y1] 45)).drew).heap[bF]? = W1.heap[bF]? from (heap_alloc_old _ _ (by simp; omega)).trans (heap_alloc_old W1 _ hbl))
        have hs6 : W1.heap.size < w6.heap.size := by have := hg6.size; simp at this; omega
        have hB6 : Below w.heap.size w w6 := Below.grown (w := ((W1.alloc (.cells #[] 45)).alloc (.cells #[.int .i64 f.s, .int .i64 f.x0, .int .i64 f.y0, .int .i64 f.x1, .int .i64 f.y1] 45)).drew) (by (repeat (first | exact Below.refl _ _ | (refine Below.alloc ?_ (by first | omega | (simp; done) | (simp; omega)) _) | (refine Below.on (by assumption) ?_ (by first | omega | (simp; done) | (simp; omega))) | (refine Below.grown ?_ (by assumption) (by first | omega | (simp; done) | (simp; omega)) (by intro k hk; cases hk)) | refine Below.drew ?_))) hg6 (by simp; omega) (by intro k hk; simp [Value.ownBlock] at hk; omega)
        have hone := (hg6.block (W1.heap.size + 1) (by simp) (by simp [Value.ownBlock])).trans (show ((W1.alloc (.cells #[] 45)).alloc (.cells #[.int .i64 f.s, .int .i64 f.x0, .int .i64 f.y0, .int .i64 f.x1, .int .i64 f.y1] 45)).heap[W1.heap.size + 1]? = _ from heap_alloc2_new W1 _ _)
        have HO6 := Lib.hid ho6
        have HX6 := Lib.hid hx6
        have HB6 := Lib.hid hB6
        have HA6 := Lib.hid ha6
        have HONE := Lib.hid hone
        clear ho6 hg6 ha6 hB6 hone
        refine hK.out _ _ (HK.out _ (hx6)) (fun hHeld => ?_)
        clear hK K
        (try simp only [Act.put, List.getElem_toArray, List.getElem_cons_zero, List.getElem_cons_succ, List.setIfInBounds_toArray, List.set_cons_zero, List.set_cons_succ])
        clear hx6
        refine wpAnyH_ready (rs := [5]) (by kernel_rfl) (by simp) ?_
        refine AllReadyH.cons rfl (fun K hK => ?_) AllReadyH.nil
        refine step_append_fos (by rfl) (.tmp 20) (.tmp 22) (by rfl) v6 (.slice (some ⟨W1.heap.size + 1, 0, none⟩) 1 1) (by rfl) (by rfl) w.heap.size (0 + L.length) ([] ++ L) [f] HO6.out (isFos_one HONE.out) (by have := HR.out; simp; omega) (by omega) ?_
        intro v7 w7 ho7 hg7 ha7
        have hne7 : v6.ownBlock ≠ some bF := by intro e; rcases HA6.out with h | h <;> (rw [h] at e; simp [Value.ownBlock] at e; omega)
        have hx7 : w7.heap[bF]? = W1.heap[bF]? := (hg7.block bF (by skip; omega) (Ne.symm hne7)).trans (HX6.out)
        have hB7 : Below w.heap.size w w7 := Below.grown (w := w6) HB6.out hg7 (by first | omega | (simp; omega)) (by intro k hk; rcases HA6.out with h | h <;> (rw [h] at hk; simp [Value.ownBlock] at hk; omega))
        have hI7 : IsFos w7 v7 (L ++ [f]) := isFos_of_own (L := L ++ [f]) (by simpa using ho7) (by simp)
        refine hK.out _ _ (HK.out _ (hx7)) (fun hHeld => ?_)
        clear hK K
        (try simp only [Act.put, List.getElem_toArray, List.getElem_cons_zero, List.getElem_cons_succ, List.setIfInBounds_toArray, List.set_cons_zero, List.set_cons_succ])
        refine wpAnyH_take (i := 6) (v := ?_) rfl (by kernel_rfl) (by kernel_rfl) (by kernel_rfl) (fun _ _ _ h => h) (Or.inl ⟨by rfl, ?_⟩) (by assumption) ?_
        rotate_left
        focus ((intro wS hSw; (try dsimp only at hSw); go_simp); (try (with_reducible rfl)))
        simp only [Act.put, List.getElem_toArray, List.getElem_cons_zero, List.getElem_cons_succ, List.setIfInBounds_toArray, List.set_cons_zero, List.set_cons_succ]
        refine wpAnyH_done (by kernel_rfl) ?_ _
        clear hHeld
        have HI7 := Lib.hid (And.intro hI7 (And.intro hx7 hB7))
        clear hI7 hx7 hB7 ho7 hg7 ha7 hne7
        go_wp2_with fail
        go_meet
        case rel => exact HI7.out
    · refine AllReadyH.cons rfl (fun K hK => ?_) AllReadyH.nil
      go_simp
      refine hK.out _ _ (HK.out _ (heap_alloc_old W1 _ hbl)) (fun hHeld => ?_)
      clear hK K
      (try simp only [Act.put, List.getElem_toArray, List.getElem_cons_zero, List.getElem_cons_succ, List.setIfInBounds_toArray, List.set_cons_zero, List.set_cons_succ])
      refine wpAnyH_ready (rs := [0]) (by kernel_rfl) (by simp) ?_
      refine AllReadyH.cons rfl (fun K hK => ?_) AllReadyH.nil
      go_simp
      refine hK.out _ _ (HK.out _ ((heap_alloc_old _ _ (by simp; omega)).trans (heap_alloc_old W1 _ hbl))) (fun hHeld => ?_)
      clear hK K
      (try simp only [Act.put, List.getElem_toArray, List.getElem_cons_zero, List.getElem_cons_succ, List.setIfInBounds_toArray, List.set_cons_zero, List.set_cons_succ])
      refine wpAnyH_ready (rs := [2]) (by kernel_rfl) (by simp) ?_
      refine AllReadyH.cons rfl (fun K hK => ?_) AllReadyH.nil
      refine step_append_fos (by rfl) (.tmp 18) (.tmp 19) (by rfl) (.slice (some ⟨W1.heap.size + 1, 0, none⟩) 0 0) (.slice A L.length cap0) (by rfl) (by rfl) w.heap.size 0 [] L (lit_second W1 _ hsz) (HFO.out _ (by (repeat (first | exact Below.refl _ _ | (refine Below.alloc ?_ (by first | omega | (simp; done) | (simp; omega)) _) | (refine Below.on (by assumption) ?_ (by first | omega | (simp; done) | (simp; omega))) | (refine Below.grown ?_ (by assumption) (by first | omega | (simp; done) | (simp; omega)) (by intro k hk; cases hk)) | refine Below.drew ?_)))) (by have := HR.out; omega) (by simp; omega) ?_
      intro v6 w6 ho6 hg6 ha6
      have hx6 : w6.heap[bF]? = W1.heap[bF]? := (hg6.block bF (by simp; omega) (by simp [Value.ownBlock]; omega)).trans (show (((W1.alloc (.cells #[.int .i64 f.s, .int .i64 f.x0, .int .i64 f.y0, .int .i64 f.x1, .int .i64 f.y1] 45)).alloc (.cells #[] 45)).drew).heap[bF]? = W1.heap[bF]? from (heap_alloc_old _ _ (by simp; omega)).trans (heap_alloc_old W1 _ hbl))
      have hs6 : W1.heap.size < w6.heap.size := by have := hg6.size; simp at this; omega
      have hB6 : Below w.heap.size w w6 := Below.grown (w := ((W1.alloc (.cells #[.int .i64 f.s, .int .i64 f.x0, .int .i64 f.y0, .int .i64 f.x1, .int .i64 f.y1] 45)).alloc (.cells #[] 45)).drew) (by (repeat (first | exact Below.refl _ _ | (refine Below.alloc ?_ (by first | omega | (simp; done) | (simp; omega)) _) | (refine Below.on (by assumption) ?_ (by first | omega | (simp; done) | (simp; omega))) | (refine Below.grown ?_ (by assumption) (by first | omega | (simp; done) | (simp; omega)) (by intro k hk; cases hk)) | refine Below.drew ?_))) hg6 (by simp; omega) (by intro k hk; simp [Value.ownBlock] at hk; omega)
      have hone := (hg6.block W1.heap.size (by simp; omega) (by simp [Value.ownBlock])).trans (show ((W1.alloc (.cells #[.int .i64 f.s, .int .i64 f.x0, .int .i64 f.y0, .int .i64 f.x1, .int .i64 f.y1] 45)).alloc (.cells #[] 45)).heap[W1.heap.size]? = _ from (heap_alloc_old _ _ (by simp)).trans (heap_alloc_new W1 _))
      have HO6 := Lib.hid ho6
      have HX6 := Lib.hid hx6
      have HB6 := Lib.hid hB6
      have HA6 := Lib.hid ha6
      have HONE := Lib.hid hone
      clear ho6 hg6 ha6 hB6 hone
      refine hK.out _ _ (HK.out _ (hx6)) (fun hHeld => ?_)
      clear hK K
      (try simp only [Act.put, List.getElem_toArray, List.getElem_cons_zero, List.getElem_cons_succ, List.setIfInBounds_toArray, List.set_cons_zero, List.set_cons_succ])
      clear hx6
      refine wpAnyH_ready (rs := [5]) (by kernel_rfl) (by simp) ?_
      refine AllReadyH.cons rfl (fun K hK => ?_) AllReadyH.nil
      refine step_append_fos (by rfl) (.tmp 20) (.tmp 22) (by rfl) v6 (.slice (some ⟨W1.heap.size, 0, none⟩) 1 1) (by rfl) (by rfl) w.heap.size (0 + L.length) ([] ++ L) [f] HO6.out (isFos_one HONE.out) (by have := HR.out; simp; omega) (by omega) ?_
      intro v7 w7 ho7 hg7 ha7
      have hne7 : v6.ownBlock ≠ some bF := by intro e; rcases HA6.out with h | h <;> (rw [h] at e; simp [Value.ownBlock] at e; omega)
      have hx7 : w7.heap[bF]? = W1.heap[bF]? := (hg7.block bF (by skip; omega) (Ne.symm hne7)).trans (HX6.out)
      have hB7 : Below w.heap.size w w7 := Below.grown (w := w6) HB6.out hg7 (by first | omega | (simp; omega)) (by intro k hk; rcases HA6.out with h | h <;> (rw [h] at hk; simp [Value.ownBlock] at hk; omega))
      have hI7 : IsFos w7 v7 (L ++ [f]) := isFos_of_own (L := L ++ [f]) (by simpa using ho7) (by simp)
      refine hK.out _ _ (HK.out _ (hx7)) (fun hHeld => ?_)
      clear hK K
      (try simp only [Act.put, List.getElem_toArray, List.getElem_cons_zero, List.getElem_cons_succ, List.setIfInBounds_toArray, List.set_cons_zero, List.set_cons_succ])
      refine wpAnyH_take (i := 6) (v := ?_) rfl (by kernel_rfl) (by kernel_rfl) (by kernel_rfl) (fun _ _ _ h => h) (Or.inl ⟨by rfl, ?_⟩) (by assumption) ?_
      rotate_left
      focus ((intro wS hSw; (try dsimp only at hSw); go_simp); (try (with_reducible rfl)))
      simp only [Act.put, List.getElem_toArray, List.getElem_cons_zero, List.getElem_cons_succ, List.setIfInBounds_toArray, List.set_cons_zero, List.set_cons_succ]
      refine wpAnyH_done (by kernel_rfl) ?_ _
      clear hHeld
      have HI7 := Lib.hid (And.intro hI7 (And.intro hx7 hB7))
      clear hI7 hx7 hB7 ho7 hg7 ha7 hne7
      go_wp2_with fail
      go_meet
      case rel => exact HI7.out
    /- ENDMORE -/
  obtain ⟨hi9, hbxc, hbc⟩ := hcut
  obtain ⟨M, hM⟩ : ∃ M, L ++ [f] = M := ⟨_, rfl⟩
  have hMl : M.length = L.length + 1 := by rw [← hM]; simp
  rw [hM] at hi9
  have HM := Lib.hid hM
  have HML := Lib.hid hMl
  obtain ⟨A9, cap9, rfl, hy1, hy2⟩ := id hi9
  clear hy1 hy2
  have hnM : M.length ≤ maxLen := by have := HR.out; have := HML.out; unfold maxLen; omega
  clear hM hMl
  have hfw := fun w h => few_any (.slice A9 M.length cap9) M 31 w h hnM
  have hsw := fun w h => sides_any (.slice A9 M.length cap9) M w h hnM
  have HBC := Lib.hid hbc
  have HI9 := Lib.hid hi9
  have HXC := Lib.hid (hbxc.trans HBX.out)
  have hcc : ∀ w', Below wc.heap.size wc w' → IsFos w' (.slice A9 M.length cap9) M := fun w' hb => hi9.below hb (Nat.le_refl _)
  have HCC := Lib.hid hcc
  clear hi9 hbxc hbc hcc HK HFO HW1 HB1 HBX
  clear hbl hsz W1
  cases hq : fewB M 31 with
  | false =>
    rw [hq] at hfw
    have HFW := Lib.hid hfw
    clear hfw hsw hq
    go_wp2_with fail
    refine (speaks10_any _).mono ?_
    rintro e x1 ⟨rfl, hb1⟩
    have HX1 := Lib.hid hb1
    clear hb1
    go_wp2_with fail
    refine (HFW.out _ (HCC.out _ HX1.out)).mono ?_
    rintro e x2 ⟨rfl, hb2⟩
    have HX2 := Lib.hid (Below.onto hb2 HX1.out)
    clear hb2
    go_wp2_with fail
    refine (speaks10_any _).mono ?_
    rintro e x3 ⟨rfl, hb3⟩
    have HX3 := Lib.hid (Below.onto hb3 HX2.out)
    clear hb3
    go_wp2_with fail
    go_ret
    exact ⟨rfl, Below.onto HX3.out HBC.out⟩
  | true =>
    rw [hq] at hfw
    have HFW := Lib.hid hfw
    cases hs : sided M with
    | false =>
      rw [hs] at hsw
      have HSW := Lib.hid hsw
      clear hfw hsw hq hs
      go_wp2_with fail
      refine (speaks10_any _).mono ?_
      rintro e x1 ⟨rfl, hb1⟩
      have HX1 := Lib.hid hb1
      clear hb1
      go_wp2_with fail
      refine (HFW.out _ (HCC.out _ HX1.out)).mono ?_
      rintro e x2 ⟨rfl, hb2⟩
      have HX2 := Lib.hid (Below.onto hb2 HX1.out)
      clear hb2
      go_wp2_with fail
      refine (HSW.out _ (HCC.out _ HX2.out)).mono ?_
      rintro e x3 ⟨rfl, hb3⟩
      have HX3 := Lib.hid (Below.onto hb3 HX2.out)
      clear hb3
      go_wp2_with fail
      refine (speaks10_any _).mono ?_
      rintro e x4 ⟨rfl, hb4⟩
      have HX4 := Lib.hid (Below.onto hb4 HX3.out)
      clear hb4
      go_wp2_with fail
      go_ret
      exact ⟨rfl, Below.onto HX4.out HBC.out⟩
    | true =>
      rw [hs] at hsw
      have HSW := Lib.hid hsw
      clear hfw hsw
      have hcs := more_cases y hi
      rcases hcs with d1 | ⟨d1, d2⟩ | ⟨d1, d2, d3⟩ | ⟨d1, d2, d3, d4⟩ | ⟨d1, d2, d3, d4, hyb, hhb⟩
      · clear hq hs
        go_wp2_with fail
        refine (speaks10_any _).mono ?_
        rintro e x1 ⟨rfl, hb1⟩
        have HX1 := Lib.hid hb1
        clear hb1
        go_wp2_with fail
        refine (HFW.out _ (HCC.out _ HX1.out)).mono ?_
        rintro e x2 ⟨rfl, hb2⟩
        have HX2 := Lib.hid (Below.onto hb2 HX1.out)
        clear hb2
        go_wp2_with fail
        refine (HSW.out _ (HCC.out _ HX2.out)).mono ?_
        rintro e x3 ⟨rfl, hb3⟩
        have HX3 := Lib.hid (Below.onto hb3 HX2.out)
        clear hb3
        go_wp2_with fail
        refine (speaks10_any _).mono ?_
        rintro e x4 ⟨rfl, hb4⟩
        have HX4 := Lib.hid (Below.onto hb4 HX3.out)
        clear hb4
        go_wp2_with fail
        go_ret
        exact ⟨rfl, Below.onto HX4.out HBC.out⟩
      · clear hq hs
        go_wp2_with fail
        refine (speaks10_any _).mono ?_
        rintro e x1 ⟨rfl, hb1⟩
        have HX1 := Lib.hid hb1
        clear hb1
        go_wp2_with fail
        refine (HFW.out _ (HCC.out _ HX1.out)).mono ?_
        rintro e x2 ⟨rfl, hb2⟩
        have HX2 := Lib.hid (Below.onto hb2 HX1.out)
        clear hb2
        go_wp2_with fail
        refine (HSW.out _ (HCC.out _ HX2.out)).mono ?_
        rintro e x3 ⟨rfl, hb3⟩
        have HX3 := Lib.hid (Below.onto hb3 HX2.out)
        clear hb3
        go_wp2_with fail
        refine (speaks10_any _).mono ?_
        rintro e x4 ⟨rfl, hb4⟩
        have HX4 := Lib.hid (Below.onto hb4 HX3.out)
        clear hb4
        go_wp2_with fail
        go_ret
        exact ⟨rfl, Below.onto HX4.out HBC.out⟩
      · clear hq hs
        go_wp2_with fail
        refine (speaks10_any _).mono ?_
        rintro e x1 ⟨rfl, hb1⟩
        have HX1 := Lib.hid hb1
        clear hb1
        go_wp2_with fail
        refine (HFW.out _ (HCC.out _ HX1.out)).mono ?_
        rintro e x2 ⟨rfl, hb2⟩
        have HX2 := Lib.hid (Below.onto hb2 HX1.out)
        clear hb2
        go_wp2_with fail
        refine (HSW.out _ (HCC.out _ HX2.out)).mono ?_
        rintro e x3 ⟨rfl, hb3⟩
        have HX3 := Lib.hid (Below.onto hb3 HX2.out)
        clear hb3
        go_wp2_with fail
        refine (speaks10_any _).mono ?_
        rintro e x4 ⟨rfl, hb4⟩
        have HX4 := Lib.hid (Below.onto hb4 HX3.out)
        clear hb4
        go_wp2_with fail
        go_ret
        exact ⟨rfl, Below.onto HX4.out HBC.out⟩
      · clear hq hs
        go_wp2_with fail
        refine (speaks10_any _).mono ?_
        rintro e x1 ⟨rfl, hb1⟩
        have HX1 := Lib.hid hb1
        clear hb1
        go_wp2_with fail
        refine (HFW.out _ (HCC.out _ HX1.out)).mono ?_
        rintro e x2 ⟨rfl, hb2⟩
        have HX2 := Lib.hid (Below.onto hb2 HX1.out)
        clear hb2
        go_wp2_with fail
        refine (HSW.out _ (HCC.out _ HX2.out)).mono ?_
        rintro e x3 ⟨rfl, hb3⟩
        have HX3 := Lib.hid (Below.onto hb3 HX2.out)
        clear hb3
        go_wp2_with fail
        refine (speaks10_any _).mono ?_
        rintro e x4 ⟨rfl, hb4⟩
        have HX4 := Lib.hid (Below.onto hb4 HX3.out)
        clear hb4
        go_wp2_with fail
        go_ret
        exact ⟨rfl, Below.onto HX4.out HBC.out⟩
      · obtain ⟨hsmM, hl31⟩ := few_small hq
        have hsdM := sided_at hs
        have hl30 : L.length ≤ 30 := by have := HML.out; have : (M.length : Int) ≤ 31 := hl31; omega
        have hM31 : M.length ≤ 31 := by have : (M.length : Int) ≤ 31 := hl31; omega
        have hsm : ∀ g ∈ L, smallF g = true := fun g hg => hsmM g (by rw [← HM.out]; exact List.mem_append_left _ hg)
        have hsd : ∀ g ∈ L, g.s = 1 ∨ g.s = 2 := fun g hg => hsdM g (by rw [← HM.out]; exact List.mem_append_left _ hg)
        have hokL := spok_small hsm (by omega)
        have hokM := spok_small hsmM (by omega)
        have hbgL := fun w h => begin10_any (.slice A L.length cap0) L w h (by omega) hsm hsd
        have hbgM := fun w h => begin10_any (.slice A9 M.length cap9) M w h (by omega) hsmM hsdM
        have HBGL := Lib.hid hbgL
        have HBGM := Lib.hid hbgM
        have HOKL := Lib.hid hokL
        have HOKM := Lib.hid hokM
        have HSDL := Lib.hid hsd
        have HSDM := Lib.hid hsdM
        have HSMM := Lib.hid hsmM
        clear hbgL hbgM hokL hokM hsd hsdM hsm hsmM hl31 hq hs
        go_wp2_with fail
        refine (speaks10_any _).mono ?_
        rintro e x1 ⟨rfl, hb1⟩
        have HX1 := Lib.hid hb1
        clear hb1
        go_wp2_with fail
        refine (HFW.out _ (HCC.out _ HX1.out)).mono ?_
        rintro e x2 ⟨rfl, hb2⟩
        have HX2 := Lib.hid (Below.onto hb2 HX1.out)
        clear hb2
        go_wp2_with fail
        refine (HSW.out _ (HCC.out _ HX2.out)).mono ?_
        rintro e x3 ⟨rfl, hb3⟩
        have HX3 := Lib.hid (Below.onto hb3 HX2.out)
        clear hb3
        have HB3 := Lib.hid (Below.onto HX3.out HBC.out)
        go_wp2_with fail
        refine (HBGL.out _ (HH.out.below HB3.out (Nat.le_refl _))).mono ?_
        rintro e x4 ⟨sp1, rfl, hs4, hb4⟩
        have HS4 := Lib.hid hs4
        have HX4 := Lib.hid (Below.onto hb4 HX3.out)
        clear hs4 hb4
        go_wp2_with fail
        refine (HBGM.out _ (HCC.out _ HX4.out)).mono ?_
        rintro e x5 ⟨sp2, rfl, hs5, hb5⟩
        have HS5 := Lib.hid (HS4.out.below hb5 (Nat.le_refl _))
        have HT5 := Lib.hid hs5
        have HX5 := Lib.hid (Below.onto hb5 HX4.out)
        clear hs5 hb5
        have hyb2 := hyb
        unfold in49 at hyb2 hhb
        have hg : 1 ≤ hgh hi ∧ hgh hi ≤ 562949953421312 := by unfold hgh; omega
        have hrw := fun w => srows_any y hi w (by omega) (by omega)
        have hbda := fun base sp w h => bounds10_any L y (y + hgh hi) base sp w h HOKL.out (by unfold Mid; omega) (by unfold Mid; omega) (by unfold far; omega)
        have hbdb := fun base sp w h => bounds10_any M y (y + hgh hi) base sp w h HOKM.out (by unfold Mid; omega) (by unfold Mid; omega) (by unfold far; omega)
        unfold SpanPost at hrw hbda hbdb
        obtain ⟨yb, hyb'⟩ : ∃ b, y + hgh hi = b := ⟨_, rfl⟩
        rw [hyb'] at hbda hbdb
        simp only [hyb'] at hrw
        have hmb : (band L y yb).1 ≤ (band M y yb).1 ∧ (band M y yb).2 ≤ (band L y yb).2 := by
          rw [← HM.out]
          exact band_more (band_is L y yb) (band_is _ y yb) (fun z => bnd_more _ _ (fun g hg => List.mem_append_left _ hg) z)
        have hme : yb ≤ f.y0 → band M y yb = band L y yb := by
          rw [← HM.out]
          exact fun h => band_above L f y yb h
        obtain ⟨⟨p1, p2⟩, hpp⟩ : ∃ q, band L y yb = q := ⟨_, rfl⟩
        obtain ⟨⟨q1, q2⟩, hqq⟩ : ∃ q, band M y yb = q := ⟨_, rfl⟩
        rw [hpp, hqq] at hmb hme
        rw [hpp] at hbda
        rw [hqq] at hbdb
        simp only [Prod.mk.injEq] at hmb hme
        have HRW := Lib.hid hrw
        have HBA := Lib.hid hbda
        have HBB := Lib.hid hbdb
        have HMB := Lib.hid hmb
        have HME := Lib.hid hme
        clear hrw hbda hbdb hmb hme hpp hqq hyb' hg hyb2
        go_wp2_with fail
        refine (HRW.out _).mono ?_
        rintro e x6 ⟨rfl, hb6⟩
        have HS6 := Lib.hid (HS5.out.below hb6 (Nat.le_refl _))
        have HT6 := Lib.hid (HT5.out.below hb6 (Nat.le_refl _))
        have HX6 := Lib.hid (Below.onto hb6 HX5.out)
        clear hb6
        go_wp2_with (first
          | ((with_reducible refine store_new (dst := none) 38 (.tmp 12) (.tmp 65) x6 _ #[.int .i64 y, .int .i64 yb] 38 rfl ?_ ?_ ?_ ?_ ?_ ?_); rfl; rfl; exact spanInfo; rfl; (simp [Value.oneCell'])))
        have hnew : Below x6.heap.size x6 (x6.alloc (.cells #[.int .i64 y, .int .i64 yb] 38)) := (Below.refl x6.heap.size x6).alloc (Nat.le_refl _) _
        have hs7 := HS6.out.below hnew (Nat.le_refl _)
        have ht7 := HT6.out.below hnew (Nat.le_refl _)
        have hx7 := Below.onto hnew HX6.out
        have hv7 := heap_alloc_new x6 (.cells #[.int .i64 y, .int .i64 yb] 38)
        clear hnew
        generalize x6.alloc (.cells #[.int .i64 y, .int .i64 yb] 38) = x7 at *
        obtain ⟨bR, hbR⟩ : ∃ b, x6.heap.size = b := ⟨_, rfl⟩
        rw [hbR] at hv7 ⊢
        have hRl : bR < x7.heap.size := (Array.getElem?_eq_some_iff.1 hv7).1
        have HK : Hid (∀ w' : World, Below x7.heap.size x7 w' → (Below x7.heap.size x7 w' ∧ w'.cell? ⟨bR, 0, none⟩ = some (.int .i64 y) ∧ w'.cell? ⟨bR, 1, none⟩ = some (.int .i64 yb))) := fun w' e => ⟨e, cell_of_row w' bR 0 _ _ (0, 0) ((e.block bR hRl).trans hv7), cell_of_row w' bR 1 _ _ (0, 0) ((e.block bR hRl).trans hv7)⟩
        have HS7 := Lib.hid hs7
        have HT7 := Lib.hid ht7
        have HX7 := Lib.hid hx7
        have HV7 := Lib.hid hv7
        clear hs7 ht7 hx7 hv7 hbR HS6 HT6 HX6 HS5 HT5 HX5 HS4 HX4 HX3 HX2 HX1
        (try simp only [Act.put])
        go_cut [13, 14] (fun p13 p14 wd => ∃ b13 b14 : Nat, p13 = .pointer (some ⟨b13, 0, none⟩) ∧ p14 = .pointer (some ⟨b14, 0, none⟩) ∧ wd.heap[b13]? = some (.cells #[.int .i64 p1, .int .i64 p2] 38 (0, 0)) ∧ wd.heap[b14]? = some (.cells #[.int .i64 q1, .int .i64 q2] 38 (0, 0)) ∧ Below x7.heap.size x7 wd)
        case first =>
          /- GENTWO -/
          refine wp_region_held_drew (S := (fun w' => Below x7.heap.size x7 w' ∧ w'.cell? ⟨bR, 0, none⟩ = some (.int .i64 y) ∧ w'.cell? ⟨bR, 1, none⟩ = some (.int .i64 yb))) (by kernel_rfl) (HK.out _ ((Below.refl _ _).drew)) (fun hHeld => ?_)
          refine wpAnyH_take (i := 0) (v := ?_) rfl (by kernel_rfl) (by kernel_rfl) (by kernel_rfl) (fun _ _ _ h => h) (Or.inl ⟨by rfl, ?_⟩) (by assumption) ?_
          rotate_left
          focus ((intro wS hSw; (try dsimp only at hSw); go_simp); (try (with_reducible rfl)))
          simp only [Act.put, List.getElem_toArray, List.getElem_cons_zero, List.getElem_cons_succ, List.setIfInBounds_toArray, List.set_cons_zero, List.set_cons_succ]
          refine wpAnyH_take (i := 1) (v := ?_) rfl (by kernel_rfl) (by kernel_rfl) (by kernel_rfl) (fun _ _ _ h => h) (Or.inl ⟨by rfl, ?_⟩) (by assumption) ?_
          rotate_left
          focus ((intro wS hSw; (try dsimp only at hSw); go_simp); (try (with_reducible rfl)))
          simp only [Act.put, List.getElem_toArray, List.getElem_cons_zero, List.getElem_cons_succ, List.setIfInBounds_toArray, List.set_cons_zero, List.set_cons_succ]
          refine wpAnyH_take (i := 3) (v := ?_) rfl (by kernel_rfl) (by kernel_rfl) (by kernel_rfl) (fun _ _ _ h => h) (Or.inl ⟨by rfl, ?_⟩) (by assumption) ?_
          rotate_left
          focus ((intro wS hSw; (try dsimp only at hSw); go_simp); (try (with_reducible rfl)))
          simp only [Act.put, List.getElem_toArray, List.getElem_cons_zero, List.getElem_cons_succ, List.setIfInBounds_toArray, List.set_cons_zero, List.set_cons_succ]
          refine wpAnyH_take (i := 4) (v := ?_) rfl (by kernel_rfl) (by kernel_rfl) (by kernel_rfl) (fun _ _ _ h => h) (Or.inl ⟨by rfl, ?_⟩) (by assumption) ?_
          rotate_left
          focus ((intro wS hSw; (try dsimp only at hSw); go_simp); (try (with_reducible rfl)))
          simp only [Act.put, List.getElem_toArray, List.getElem_cons_zero, List.getElem_cons_succ, List.setIfInBounds_toArray, List.set_cons_zero, List.set_cons_succ]
          refine wpAnyH_ready (rs := [2, 6, 7]) (by kernel_rfl) (by simp) ?_
          refine AllReadyH.cons rfl (fun K hK => ?_) ?_
          · skip
            go_simp
            refine (HBA.out _ sp1 _ (HS7.out.below hHeld.1 (Nat.le_refl _))).mono ?_
            rintro e wx1 ⟨rfl, hbx⟩
            have HE1 := Lib.hid (Below.onto hbx hHeld.1)
            have he1 := HE1.out.size
            have hz1 := hbx.size
            (try simp at hz1)
            refine hK.out _ _ (HK.out _ HE1.out) (fun hHeld => ?_)
            clear hK K hbx
            (try simp only [Act.put, List.getElem_toArray, List.getElem_cons_zero, List.getElem_cons_succ, List.setIfInBounds_toArray, List.set_cons_zero, List.set_cons_succ])
            refine wpAnyH_ready (rs := [5, 6, 7]) (by kernel_rfl) (by simp) ?_
            refine AllReadyH.cons rfl (fun K hK => ?_) ?_
            · skip
              go_simp
              refine (HBB.out _ sp2 _ (HT7.out.below hHeld.1 (Nat.le_refl _))).mono ?_
              rintro e wx2 ⟨rfl, hbx⟩
              have HE2 := Lib.hid (Below.onto hbx hHeld.1)
              have he2 := HE2.out.size
              have hz2 := hbx.size
              (try simp at hz2)
              refine hK.out _ _ (HK.out _ HE2.out) (fun hHeld => ?_)
              clear hK K hbx
              (try simp only [Act.put, List.getElem_toArray, List.getElem_cons_zero, List.getElem_cons_succ, List.setIfInBounds_toArray, List.set_cons_zero, List.set_cons_succ])
              refine wpAnyH_ready (rs := [6, 7]) (by kernel_rfl) (by simp) ?_
              refine AllReadyH.cons rfl (fun K hK => ?_) ?_
              · skip
                go_simp
                refine hK.out _ _ (HK.out _ (by first | exact (Below.alloc (HE2.out) (by first | omega | (simp; done) | (simp; omega)) _) | exact ((Below.alloc (HE2.out) (by first | omega | (simp; done) | (simp; omega)) _)).drew)) (fun hHeld => ?_)
                clear hK K
                (try simp only [Act.put, List.getElem_toArray, List.getElem_cons_zero, List.getElem_cons_succ, List.setIfInBounds_toArray, List.set_cons_zero, List.set_cons_succ])
                refine wpAnyH_ready (rs := [7]) (by kernel_rfl) (by simp) ?_
                refine AllReadyH.cons rfl (fun K hK => ?_) AllReadyH.nil
                go_simp
                refine hK.out _ _ (HK.out _ (by first | exact (Below.alloc ((Below.alloc (HE2.out) (by first | omega | (simp; done) | (simp; omega)) _)) (by first | omega | (simp; done) | (simp; omega)) _) | exact ((Below.alloc ((Below.alloc (HE2.out) (by first | omega | (simp; done) | (simp; omega)) _)) (by first | omega | (simp; done) | (simp; omega)) _)).drew)) (fun hHeld => ?_)
                clear hK K
                (try simp only [Act.put, List.getElem_toArray, List.getElem_cons_zero, List.getElem_cons_succ, List.setIfInBounds_toArray, List.set_cons_zero, List.set_cons_succ])
                have hFA : ((wx2.alloc (.cells #[.int .i64 0, .int .i64 0] 38)).alloc (.cells #[.int .i64 0, .int .i64 0] 38)).heap[wx2.heap.size]? = some (.cells #[.int .i64 0, .int .i64 0] 38 (0, 0)) := old_some (heap_alloc_new wx2 _)
                have hFB : ((wx2.alloc (.cells #[.int .i64 0, .int .i64 0] 38)).alloc (.cells #[.int .i64 0, .int .i64 0] 38)).heap[wx2.heap.size + 1]? = some (.cells #[.int .i64 0, .int .i64 0] 38 (0, 0)) := heap_alloc2_new wx2 _ _
                have hFW : Below x7.heap.size x7 ((wx2.alloc (.cells #[.int .i64 0, .int .i64 0] 38)).alloc (.cells #[.int .i64 0, .int .i64 0] 38)) := hHeld.1
                have hne : wx2.heap.size ≠ wx2.heap.size + 1 := by omega
                have hgA : x7.heap.size ≤ wx2.heap.size := by omega
                have hgB : x7.heap.size ≤ wx2.heap.size + 1 := by omega
                generalize ((wx2.alloc (.cells #[.int .i64 0, .int .i64 0] 38)).alloc (.cells #[.int .i64 0, .int .i64 0] 38)) = W9 at *
                skip
                skip
                have a0 := cell_of_row W9 (wx2.heap.size) 0 _ _ (0, 0) hFA
                have a1 := cell_of_row W9 (wx2.heap.size) 1 _ _ (0, 0) hFA
                have b0 := cell_of_row W9 (wx2.heap.size + 1) 0 _ _ (0, 0) hFB
                have b1 := cell_of_row W9 (wx2.heap.size + 1) 1 _ _ (0, 0) hFB
                have fa0 := frozen_of_row W9 (wx2.heap.size) 0 _ _ hFA
                have fa1 := frozen_of_row W9 (wx2.heap.size) 1 _ _ hFA
                have fb0 := frozen_of_row W9 (wx2.heap.size + 1) 0 _ _ hFB
                have fb1 := frozen_of_row W9 (wx2.heap.size + 1) 1 _ _ hFB
                have hab : (wx2.heap.size = wx2.heap.size + 1) = False := eq_false hne
                have hba : (wx2.heap.size + 1 = wx2.heap.size) = False := eq_false (Ne.symm hne)
                refine wpAnyH_ready (rs := [8]) (by kernel_rfl) (by simp) ?_
                refine AllReadyH.cons rfl (fun K hK => ?_) AllReadyH.nil
                go_simp
                refine hK.out _ _ (HK.out _ (Below.setCell (Below.setCell hFW hgA _) hgA _)) (fun hHeld => ?_)
                clear hK K
                (try simp only [Act.put, List.getElem_toArray, List.getElem_cons_zero, List.getElem_cons_succ, List.setIfInBounds_toArray, List.set_cons_zero, List.set_cons_succ])
                refine wpAnyH_ready (rs := [9]) (by kernel_rfl) (by simp) ?_
                refine AllReadyH.cons rfl (fun K hK => ?_) AllReadyH.nil
                go_simp
                refine hK.out _ _ (HK.out _ (Below.setCell (Below.setCell (Below.setCell (Below.setCell hFW hgA _) hgA _) hgB _) hgB _)) (fun hHeld => ?_)
                clear hK K
                (try simp only [Act.put, List.getElem_toArray, List.getElem_cons_zero, List.getElem_cons_succ, List.setIfInBounds_toArray, List.set_cons_zero, List.set_cons_succ])
                refine wpAnyH_done (by kernel_rfl) ?_ _
                have HF := Lib.hid hHeld.1
                clear hHeld a0 a1 b0 b1 fa0 fa1 fb0 fb1 hab hba
                go_wp2_with fail
                go_meet
                case rel => exact ⟨_, _, rfl, rfl, (heap4 hne hFA hFB).1, (heap4 hne hFA hFB).2, HF.out⟩
              · refine AllReadyH.cons rfl (fun K hK => ?_) AllReadyH.nil
                go_simp
                refine hK.out _ _ (HK.out _ (by first | exact (Below.alloc (HE2.out) (by first | omega | (simp; done) | (simp; omega)) _) | exact ((Below.alloc (HE2.out) (by first | omega | (simp; done) | (simp; omega)) _)).drew)) (fun hHeld => ?_)
                clear hK K
                (try simp only [Act.put, List.getElem_toArray, List.getElem_cons_zero, List.getElem_cons_succ, List.setIfInBounds_toArray, List.set_cons_zero, List.set_cons_succ])
                refine wpAnyH_ready (rs := [6]) (by kernel_rfl) (by simp) ?_
                refine AllReadyH.cons rfl (fun K hK => ?_) AllReadyH.nil
                go_simp
                refine hK.out _ _ (HK.out _ (by first | exact (Below.alloc ((Below.alloc (HE2.out) (by first | omega | (simp; done) | (simp; omega)) _)) (by first | omega | (simp; done) | (simp; omega)) _) | exact ((Below.alloc ((Below.alloc (HE2.out) (by first | omega | (simp; done) | (simp; omega)) _)) (by first | omega | (simp; done) | (simp; omega)) _)).drew)) (fun hHeld => ?_)
                clear hK K
                (try simp only [Act.put, List.getElem_toArray, List.getElem_cons_zero, List.getElem_cons_succ, List.setIfInBounds_toArray, List.set_cons_zero, List.set_cons_succ])
                have hFA : ((wx2.alloc (.cells #[.int .i64 0, .int .i64 0] 38)).alloc (.cells #[.int .i64 0, .int .i64 0] 38)).heap[wx2.heap.size + 1]? = some (.cells #[.int .i64 0, .int .i64 0] 38 (0, 0)) := heap_alloc2_new wx2 _ _
                have hFB : ((wx2.alloc (.cells #[.int .i64 0, .int .i64 0] 38)).alloc (.cells #[.int .i64 0, .int .i64 0] 38)).heap[wx2.heap.size]? = some (.cells #[.int .i64 0, .int .i64 0] 38 (0, 0)) := old_some (heap_alloc_new wx2 _)
                have hFW : Below x7.heap.size x7 ((wx2.alloc (.cells #[.int .i64 0, .int .i64 0] 38)).alloc (.cells #[.int .i64 0, .int .i64 0] 38)) := hHeld.1
                have hne : wx2.heap.size + 1 ≠ wx2.heap.size := by omega
                have hgA : x7.heap.size ≤ wx2.heap.size + 1 := by omega
                have hgB : x7.heap.size ≤ wx2.heap.size := by omega
                generalize ((wx2.alloc (.cells #[.int .i64 0, .int .i64 0] 38)).alloc (.cells #[.int .i64 0, .int .i64 0] 38)) = W9 at *
                skip
                skip
                have a0 := cell_of_row W9 (wx2.heap.size + 1) 0 _ _ (0, 0) hFA
                have a1 := cell_of_row W9 (wx2.heap.size + 1) 1 _ _ (0, 0) hFA
                have b0 := cell_of_row W9 (wx2.heap.size) 0 _ _ (0, 0) hFB
                have b1 := cell_of_row W9 (wx2.heap.size) 1 _ _ (0, 0) hFB
                have fa0 := frozen_of_row W9 (wx2.heap.size + 1) 0 _ _ hFA
                have fa1 := frozen_of_row W9 (wx2.heap.size + 1) 1 _ _ hFA
                have fb0 := frozen_of_row W9 (wx2.heap.size) 0 _ _ hFB
                have fb1 := frozen_of_row W9 (wx2.heap.size) 1 _ _ hFB
                have hab : (wx2.heap.size + 1 = wx2.heap.size) = False := eq_false hne
                have hba : (wx2.heap.size = wx2.heap.size + 1) = False := eq_false (Ne.symm hne)
                refine wpAnyH_ready (rs := [8]) (by kernel_rfl) (by simp) ?_
                refine AllReadyH.cons rfl (fun K hK => ?_) AllReadyH.nil
                go_simp
                refine hK.out _ _ (HK.out _ (Below.setCell (Below.setCell hFW hgA _) hgA _)) (fun hHeld => ?_)
                clear hK K
                (try simp only [Act.put, List.getElem_toArray, List.getElem_cons_zero, List.getElem_cons_succ, List.setIfInBounds_toArray, List.set_cons_zero, List.set_cons_succ])
                refine wpAnyH_ready (rs := [9]) (by kernel_rfl) (by simp) ?_
                refine AllReadyH.cons rfl (fun K hK => ?_) AllReadyH.nil
                go_simp
                refine hK.out _ _ (HK.out _ (Below.setCell (Below.setCell (Below.setCell (Below.setCell hFW hgA _) hgA _) hgB _) hgB _)) (fun hHeld => ?_)
                clear hK K
                (try simp only [Act.put, List.getElem_toArray, List.getElem_cons_zero, List.getElem_cons_succ, List.setIfInBounds_toArray, List.set_cons_zero, List.set_cons_succ])
                refine wpAnyH_done (by kernel_rfl) ?_ _
                have HF := Lib.hid hHeld.1
                clear hHeld a0 a1 b0 b1 fa0 fa1 fb0 fb1 hab hba
                go_wp2_with fail
                go_meet
                case rel => exact ⟨_, _, rfl, rfl, (heap4 hne hFA hFB).1, (heap4 hne hFA hFB).2, HF.out⟩
            · refine AllReadyH.cons rfl (fun K hK => ?_) ?_
              · skip
                go_simp
                refine hK.out _ _ (HK.out _ (by first | exact (Below.alloc (HE1.out) (by first | omega | (simp; done) | (simp; omega)) _) | exact ((Below.alloc (HE1.out) (by first | omega | (simp; done) | (simp; omega)) _)).drew)) (fun hHeld => ?_)
                clear hK K
                (try simp only [Act.put, List.getElem_toArray, List.getElem_cons_zero, List.getElem_cons_succ, List.setIfInBounds_toArray, List.set_cons_zero, List.set_cons_succ])
                refine wpAnyH_ready (rs := [5, 7]) (by kernel_rfl) (by simp) ?_
                refine AllReadyH.cons rfl (fun K hK => ?_) ?_
                · skip
                  go_simp
                  refine (HBB.out _ sp2 _ (HT7.out.below hHeld.1 (Nat.le_refl _))).mono ?_
                  rintro e wx2 ⟨rfl, hbx⟩
                  have hA2 : wx2.heap[wx1.heap.size]? = some (.cells #[.int .i64 0, .int .i64 0] 38 (0, 0)) := below_some hbx _ _ (heap_alloc_new wx1 _)
                  have HE2 := Lib.hid (Below.onto hbx hHeld.1)
                  have he2 := HE2.out.size
                  have hz2 := hbx.size
                  (try simp at hz2)
                  refine hK.out _ _ (HK.out _ HE2.out) (fun hHeld => ?_)
                  clear hK K hbx
                  (try simp only [Act.put, List.getElem_toArray, List.getElem_cons_zero, List.getElem_cons_succ, List.setIfInBounds_toArray, List.set_cons_zero, List.set_cons_succ])
                  refine wpAnyH_ready (rs := [7]) (by kernel_rfl) (by simp) ?_
                  refine AllReadyH.cons rfl (fun K hK => ?_) AllReadyH.nil
                  go_simp
                  refine hK.out _ _ (HK.out _ (by first | exact (Below.alloc (HE2.out) (by first | omega | (simp; done) | (simp; omega)) _) | exact ((Below.alloc (HE2.out) (by first | omega | (simp; done) | (simp; omega)) _)).drew)) (fun hHeld => ?_)
                  clear hK K
                  (try simp only [Act.put, List.getElem_toArray, List.getElem_cons_zero, List.getElem_cons_succ, List.setIfInBounds_toArray, List.set_cons_zero, List.set_cons_succ])
                  have hFA : (wx2.alloc (.cells #[.int .i64 0, .int .i64 0] 38)).heap[wx1.heap.size]? = some (.cells #[.int .i64 0, .int .i64 0] 38 (0, 0)) := old_some (hA2)
                  have hFB : (wx2.alloc (.cells #[.int .i64 0, .int .i64 0] 38)).heap[wx2.heap.size]? = some (.cells #[.int .i64 0, .int .i64 0] 38 (0, 0)) := heap_alloc_new wx2 _
                  have hFW : Below x7.heap.size x7 (wx2.alloc (.cells #[.int .i64 0, .int .i64 0] 38)) := hHeld.1
                  have hne : wx1.heap.size ≠ wx2.heap.size := by omega
                  have hgA : x7.heap.size ≤ wx1.heap.size := by omega
                  have hgB : x7.heap.size ≤ wx2.heap.size := by omega
                  generalize (wx2.alloc (.cells #[.int .i64 0, .int .i64 0] 38)) = W9 at *
                  skip
                  skip
                  have a0 := cell_of_row W9 (wx1.heap.size) 0 _ _ (0, 0) hFA
                  have a1 := cell_of_row W9 (wx1.heap.size) 1 _ _ (0, 0) hFA
                  have b0 := cell_of_row W9 (wx2.heap.size) 0 _ _ (0, 0) hFB
                  have b1 := cell_of_row W9 (wx2.heap.size) 1 _ _ (0, 0) hFB
                  have fa0 := frozen_of_row W9 (wx1.heap.size) 0 _ _ hFA
                  have fa1 := frozen_of_row W9 (wx1.heap.size) 1 _ _ hFA
                  have fb0 := frozen_of_row W9 (wx2.heap.size) 0 _ _ hFB
                  have fb1 := frozen_of_row W9 (wx2.heap.size) 1 _ _ hFB
                  have hab : (wx1.heap.size = wx2.heap.size) = False := eq_false hne
                  have hba : (wx2.heap.size = wx1.heap.size) = False := eq_false (Ne.symm hne)
                  refine wpAnyH_ready (rs := [8]) (by kernel_rfl) (by simp) ?_
                  refine AllReadyH.cons rfl (fun K hK => ?_) AllReadyH.nil
                  go_simp
                  refine hK.out _ _ (HK.out _ (Below.setCell (Below.setCell hFW hgA _) hgA _)) (fun hHeld => ?_)
                  clear hK K
                  (try simp only [Act.put, List.getElem_toArray, List.getElem_cons_zero, List.getElem_cons_succ, List.setIfInBounds_toArray, List.set_cons_zero, List.set_cons_succ])
                  refine wpAnyH_ready (rs := [9]) (by kernel_rfl) (by simp) ?_
                  refine AllReadyH.cons rfl (fun K hK => ?_) AllReadyH.nil
                  go_simp
                  refine hK.out _ _ (HK.out _ (Below.setCell (Below.setCell (Below.setCell (Below.setCell hFW hgA _) hgA _) hgB _) hgB _)) (fun hHeld => ?_)
                  clear hK K
                  (try simp only [Act.put, List.getElem_toArray, List.getElem_cons_zero, List.getElem_cons_succ, List.setIfInBounds_toArray, List.set_cons_zero, List.set_cons_succ])
                  refine wpAnyH_done (by kernel_rfl) ?_ _
                  have HF := Lib.hid hHeld.1
                  clear hHeld a0 a1 b0 b1 fa0 fa1 fb0 fb1 hab hba
                  go_wp2_with fail
                  go_meet
                  case rel => exact ⟨_, _, rfl, rfl, (heap4 hne hFA hFB).1, (heap4 hne hFA hFB).2, HF.out⟩
                · refine AllReadyH.cons rfl (fun K hK => ?_) AllReadyH.nil
                  go_simp
                  refine hK.out _ _ (HK.out _ (by first | exact (Below.alloc ((Below.alloc (HE1.out) (by first | omega | (simp; done) | (simp; omega)) _)) (by first | omega | (simp; done) | (simp; omega)) _) | exact ((Below.alloc ((Below.alloc (HE1.out) (by first | omega | (simp; done) | (simp; omega)) _)) (by first | omega | (simp; done) | (simp; omega)) _)).drew)) (fun hHeld => ?_)
                  clear hK K
                  (try simp only [Act.put, List.getElem_toArray, List.getElem_cons_zero, List.getElem_cons_succ, List.setIfInBounds_toArray, List.set_cons_zero, List.set_cons_succ])
                  refine wpAnyH_ready (rs := [5]) (by kernel_rfl) (by simp) ?_
                  refine AllReadyH.cons rfl (fun K hK => ?_) AllReadyH.nil
                  go_simp
                  refine (HBB.out _ sp2 _ (HT7.out.below hHeld.1 (Nat.le_refl _))).mono ?_
                  rintro e wx2 ⟨rfl, hbx⟩
                  have hA2 : wx2.heap[wx1.heap.size]? = some (.cells #[.int .i64 0, .int .i64 0] 38 (0, 0)) := below_some hbx _ _ (old_some (heap_alloc_new wx1 _))
                  have hB2 : wx2.heap[wx1.heap.size + 1]? = some (.cells #[.int .i64 0, .int .i64 0] 38 (0, 0)) := below_some hbx _ _ (heap_alloc2_new wx1 _ _)
                  have HE2 := Lib.hid (Below.onto hbx hHeld.1)
                  have he2 := HE2.out.size
                  have hz2 := hbx.size
                  (try simp at hz2)
                  refine hK.out _ _ (HK.out _ HE2.out) (fun hHeld => ?_)
                  clear hK K hbx
                  (try simp only [Act.put, List.getElem_toArray, List.getElem_cons_zero, List.getElem_cons_succ, List.setIfInBounds_toArray, List.set_cons_zero, List.set_cons_succ])
                  have hFA : wx2.heap[wx1.heap.size]? = some (.cells #[.int .i64 0, .int .i64 0] 38 (0, 0)) := hA2
                  have hFB : wx2.heap[wx1.heap.size + 1]? = some (.cells #[.int .i64 0, .int .i64 0] 38 (0, 0)) := hB2
                  have hFW : Below x7.heap.size x7 wx2 := hHeld.1
                  have hne : wx1.heap.size ≠ wx1.heap.size + 1 := by omega
                  have hgA : x7.heap.size ≤ wx1.heap.size := by omega
                  have hgB : x7.heap.size ≤ wx1.heap.size + 1 := by omega
                  generalize wx2 = W9 at *
                  skip
                  skip
                  have a0 := cell_of_row W9 (wx1.heap.size) 0 _ _ (0, 0) hFA
                  have a1 := cell_of_row W9 (wx1.heap.size) 1 _ _ (0, 0) hFA
                  have b0 := cell_of_row W9 (wx1.heap.size + 1) 0 _ _ (0, 0) hFB
                  have b1 := cell_of_row W9 (wx1.heap.size + 1) 1 _ _ (0, 0) hFB
                  have fa0 := frozen_of_row W9 (wx1.heap.size) 0 _ _ hFA
                  have fa1 := frozen_of_row W9 (wx1.heap.size) 1 _ _ hFA
                  have fb0 := frozen_of_row W9 (wx1.heap.size + 1) 0 _ _ hFB
                  have fb1 := frozen_of_row W9 (wx1.heap.size + 1) 1 _ _ hFB
                  have hab : (wx1.heap.size = wx1.heap.size + 1) = False := eq_false hne
                  have hba : (wx1.heap.size + 1 = wx1.heap.size) = False := eq_false (Ne.symm hne)
                  refine wpAnyH_ready (rs := [8]) (by kernel_rfl) (by simp) ?_
                  refine AllReadyH.cons rfl (fun K hK => ?_) AllReadyH.nil
                  go_simp
                  refine hK.out _ _ (HK.out _ (Below.setCell (Below.setCell hFW hgA _) hgA _)) (fun hHeld => ?_)
                  clear hK K
                  (try simp only [Act.put, List.getElem_toArray, List.getElem_cons_zero, List.getElem_cons_succ, List.setIfInBounds_toArray, List.set_cons_zero, List.set_cons_succ])
                  refine wpAnyH_ready (rs := [9]) (by kernel_rfl) (by simp) ?_
                  refine AllReadyH.cons rfl (fun K hK => ?_) AllReadyH.nil
                  go_simp
                  refine hK.out _ _ (HK.out _ (Below.setCell (Below.setCell (Below.setCell (Below.setCell hFW hgA _) hgA _) hgB _) hgB _)) (fun hHeld => ?_)
                  clear hK K
                  (try simp only [Act.put, List.getElem_toArray, List.getElem_cons_zero, List.getElem_cons_succ, List.setIfInBounds_toArray, List.set_cons_zero, List.set_cons_succ])
                  refine wpAnyH_done (by kernel_rfl) ?_ _
                  have HF := Lib.hid hHeld.1
                  clear hHeld a0 a1 b0 b1 fa0 fa1 fb0 fb1 hab hba
                  go_wp2_with fail
                  go_meet
                  case rel => exact ⟨_, _, rfl, rfl, (heap4 hne hFA hFB).1, (heap4 hne hFA hFB).2, HF.out⟩
              · refine AllReadyH.cons rfl (fun K hK => ?_) AllReadyH.nil
                go_simp
                refine hK.out _ _ (HK.out _ (by first | exact (Below.alloc (HE1.out) (by first | omega | (simp; done) | (simp; omega)) _) | exact ((Below.alloc (HE1.out) (by first | omega | (simp; done) | (simp; omega)) _)).drew)) (fun hHeld => ?_)
                clear hK K
                (try simp only [Act.put, List.getElem_toArray, List.getElem_cons_zero, List.getElem_cons_succ, List.setIfInBounds_toArray, List.set_cons_zero, List.set_cons_succ])
                refine wpAnyH_ready (rs := [5, 6]) (by kernel_rfl) (by simp) ?_
                refine AllReadyH.cons rfl (fun K hK => ?_) ?_
                · skip
                  go_simp
                  refine (HBB.out _ sp2 _ (HT7.out.below hHeld.1 (Nat.le_refl _))).mono ?_
                  rintro e wx2 ⟨rfl, hbx⟩
                  have hB2 : wx2.heap[wx1.heap.size]? = some (.cells #[.int .i64 0, .int .i64 0] 38 (0, 0)) := below_some hbx _ _ (heap_alloc_new wx1 _)
                  have HE2 := Lib.hid (Below.onto hbx hHeld.1)
                  have he2 := HE2.out.size
                  have hz2 := hbx.size
                  (try simp at hz2)
                  refine hK.out _ _ (HK.out _ HE2.out) (fun hHeld => ?_)
                  clear hK K hbx
                  (try simp only [Act.put, List.getElem_toArray, List.getElem_cons_zero, List.getElem_cons_succ, List.setIfInBounds_toArray, List.set_cons_zero, List.set_cons_succ])
                  refine wpAnyH_ready (rs := [6]) (by kernel_rfl) (by simp) ?_
                  refine AllReadyH.cons rfl (fun K hK => ?_) AllReadyH.nil
                  go_simp
                  refine hK.out _ _ (HK.out _ (by first | exact (Below.alloc (HE2.out) (by first | omega | (simp; done) | (simp; omega)) _) | exact ((Below.alloc (HE2.out) (by first | omega | (simp; done) | (simp; omega)) _)).drew)) (fun hHeld => ?_)
                  clear hK K
                  (try simp only [Act.put, List.getElem_toArray, List.getElem_cons_zero, List.getElem_cons_succ, List.setIfInBounds_toArray, List.set_cons_zero, List.set_cons_succ])
                  have hFA : (wx2.alloc (.cells #[.int .i64 0, .int .i64 0] 38)).heap[wx2.heap.size]? = some (.cells #[.int .i64 0, .int .i64 0] 38 (0, 0)) := heap_alloc_new wx2 _
                  have hFB : (wx2.alloc (.cells #[.int .i64 0, .int .i64 0] 38)).heap[wx1.heap.size]? = some (.cells #[.int .i64 0, .int .i64 0] 38 (0, 0)) := old_some (hB2)
                  have hFW : Below x7.heap.size x7 (wx2.alloc (.cells #[.int .i64 0, .int .i64 0] 38)) := hHeld.1
                  have hne : wx2.heap.size ≠ wx1.heap.size := by omega
                  have hgA : x7.heap.size ≤ wx2.heap.size := by omega
                  have hgB : x7.heap.size ≤ wx1.heap.size := by omega
                  generalize (wx2.alloc (.cells #[.int .i64 0, .int .i64 0] 38)) = W9 at *
                  skip
                  skip
                  have a0 := cell_of_row W9 (wx2.heap.size) 0 _ _ (0, 0) hFA
                  have a1 := cell_of_row W9 (wx2.heap.size) 1 _ _ (0, 0) hFA
                  have b0 := cell_of_row W9 (wx1.heap.size) 0 _ _ (0, 0) hFB
                  have b1 := cell_of_row W9 (wx1.heap.size) 1 _ _ (0, 0) hFB
                  have fa0 := frozen_of_row W9 (wx2.heap.size) 0 _ _ hFA
                  have fa1 := frozen_of_row W9 (wx2.heap.size) 1 _ _ hFA
                  have fb0 := frozen_of_row W9 (wx1.heap.size) 0 _ _ hFB
                  have fb1 := frozen_of_row W9 (wx1.heap.size) 1 _ _ hFB
                  have hab : (wx2.heap.size = wx1.heap.size) = False := eq_false hne
                  have hba : (wx1.heap.size = wx2.heap.size) = False := eq_false (Ne.symm hne)
                  refine wpAnyH_ready (rs := [8]) (by kernel_rfl) (by simp) ?_
                  refine AllReadyH.cons rfl (fun K hK => ?_) AllReadyH.nil
                  go_simp
                  refine hK.out _ _ (HK.out _ (Below.setCell (Below.setCell hFW hgA _) hgA _)) (fun hHeld => ?_)
                  clear hK K
                  (try simp only [Act.put, List.getElem_toArray, List.getElem_cons_zero, List.getElem_cons_succ, List.setIfInBounds_toArray, List.set_cons_zero, List.set_cons_succ])
                  refine wpAnyH_ready (rs := [9]) (by kernel_rfl) (by simp) ?_
                  refine AllReadyH.cons rfl (fun K hK => ?_) AllReadyH.nil
                  go_simp
                  refine hK.out _ _ (HK.out _ (Below.setCell (Below.setCell (Below.setCell (Below.setCell hFW hgA _) hgA _) hgB _) hgB _)) (fun hHeld => ?_)
                  clear hK K
                  (try simp only [Act.put, List.getElem_toArray, List.getElem_cons_zero, List.getElem_cons_succ, List.setIfInBounds_toArray, List.set_cons_zero, List.set_cons_succ])
                  refine wpAnyH_done (by kernel_rfl) ?_ _
                  have HF := Lib.hid hHeld.1
                  clear hHeld a0 a1 b0 b1 fa0 fa1 fb0 fb1 hab hba
                  go_wp2_with fail
                  go_meet
                  case rel => exact ⟨_, _, rfl, rfl, (heap4 hne hFA hFB).1, (heap4 hne hFA hFB).2, HF.out⟩
                · refine AllReadyH.cons rfl (fun K hK => ?_) AllReadyH.nil
                  go_simp
                  refine hK.out _ _ (HK.out _ (by first | exact (Below.alloc ((Below.alloc (HE1.out) (by first | omega | (simp; done) | (simp; omega)) _)) (by first | omega | (simp; done) | (simp; omega)) _) | exact ((Below.alloc ((Below.alloc (HE1.out) (by first | omega | (simp; done) | (simp; omega)) _)) (by first | omega | (simp; done) | (simp; omega)) _)).drew)) (fun hHeld => ?_)
                  clear hK K
                  (try simp only [Act.put, List.getElem_toArray, List.getElem_cons_zero, List.getElem_cons_succ, List.setIfInBounds_toArray, List.set_cons_zero, List.set_cons_succ])
                  refine wpAnyH_ready (rs := [5]) (by kernel_rfl) (by simp) ?_
                  refine AllReadyH.cons rfl (fun K hK => ?_) AllReadyH.nil
                  go_simp
                  refine (HBB.out _ sp2 _ (HT7.out.below hHeld.1 (Nat.le_refl _))).mono ?_
                  rintro e wx2 ⟨rfl, hbx⟩
                  have hA2 : wx2.heap[wx1.heap.size + 1]? = some (.cells #[.int .i64 0, .int .i64 0] 38 (0, 0)) := below_some hbx _ _ (heap_alloc2_new wx1 _ _)
                  have hB2 : wx2.heap[wx1.heap.size]? = some (.cells #[.int .i64 0, .int .i64 0] 38 (0, 0)) := below_some hbx _ _ (old_some (heap_alloc_new wx1 _))
                  have HE2 := Lib.hid (Below.onto hbx hHeld.1)
                  have he2 := HE2.out.size
                  have hz2 := hbx.size
                  (try simp at hz2)
                  refine hK.out _ _ (HK.out _ HE2.out) (fun hHeld => ?_)
                  clear hK K hbx
                  (try simp only [Act.put, List.getElem_toArray, List.getElem_cons_zero, List.getElem_cons_succ, List.setIfInBounds_toArray, List.set_cons_zero, List.set_cons_succ])
                  have hFA : wx2.heap[wx1.heap.size + 1]? = some (.cells #[.int .i64 0, .int .i64 0] 38 (0, 0)) := hA2
                  have hFB : wx2.heap[wx1.heap.size]? = some (.cells #[.int .i64 0, .int .i64 0] 38 (0, 0)) := hB2
                  have hFW : Below x7.heap.size x7 wx2 := hHeld.1
                  have hne : wx1.heap.size + 1 ≠ wx1.heap.size := by omega
                  have hgA : x7.heap.size ≤ wx1.heap.size + 1 := by omega
                  have hgB : x7.heap.size ≤ wx1.heap.size := by omega
                  generalize wx2 = W9 at *
                  skip
                  skip
                  have a0 := cell_of_row W9 (wx1.heap.size + 1) 0 _ _ (0, 0) hFA
                  have a1 := cell_of_row W9 (wx1.heap.size + 1) 1 _ _ (0, 0) hFA
                  have b0 := cell_of_row W9 (wx1.heap.size) 0 _ _ (0, 0) hFB
                  have b1 := cell_of_row W9 (wx1.heap.size) 1 _ _ (0, 0) hFB
                  have fa0 := frozen_of_row W9 (wx1.heap.size + 1) 0 _ _ hFA
                  have fa1 := frozen_of_row W9 (wx1.heap.size + 1) 1 _ _ hFA
                  have fb0 := frozen_of_row W9 (wx1.heap.size) 0 _ _ hFB
                  have fb1 := frozen_of_row W9 (wx1.heap.size) 1 _ _ hFB
                  have hab : (wx1.heap.size + 1 = wx1.heap.size) = False := eq_false hne
                  have hba : (wx1.heap.size = wx1.heap.size + 1) = False := eq_false (Ne.symm hne)
                  refine wpAnyH_ready (rs := [8]) (by kernel_rfl) (by simp) ?_
                  refine AllReadyH.cons rfl (fun K hK => ?_) AllReadyH.nil
                  go_simp
                  refine hK.out _ _ (HK.out _ (Below.setCell (Below.setCell hFW hgA _) hgA _)) (fun hHeld => ?_)
                  clear hK K
                  (try simp only [Act.put, List.getElem_toArray, List.getElem_cons_zero, List.getElem_cons_succ, List.setIfInBounds_toArray, List.set_cons_zero, List.set_cons_succ])
                  refine wpAnyH_ready (rs := [9]) (by kernel_rfl) (by simp) ?_
                  refine AllReadyH.cons rfl (fun K hK => ?_) AllReadyH.nil
                  go_simp
                  refine hK.out _ _ (HK.out _ (Below.setCell (Below.setCell (Below.setCell (Below.setCell hFW hgA _) hgA _) hgB _) hgB _)) (fun hHeld => ?_)
                  clear hK K
                  (try simp only [Act.put, List.getElem_toArray, List.getElem_cons_zero, List.getElem_cons_succ, List.setIfInBounds_toArray, List.set_cons_zero, List.set_cons_succ])
                  refine wpAnyH_done (by kernel_rfl) ?_ _
                  have HF := Lib.hid hHeld.1
                  clear hHeld a0 a1 b0 b1 fa0 fa1 fb0 fb1 hab hba
                  go_wp2_with fail
                  go_meet
                  case rel => exact ⟨_, _, rfl, rfl, (heap4 hne hFA hFB).1, (heap4 hne hFA hFB).2, HF.out⟩
          · refine AllReadyH.cons rfl (fun K hK => ?_) ?_
            · skip
              go_simp
              refine hK.out _ _ (HK.out _ (by first | exact (Below.alloc (Below.refl x7.heap.size x7) (by first | omega | (simp; done) | (simp; omega)) _) | exact ((Below.alloc (Below.refl x7.heap.size x7) (by first | omega | (simp; done) | (simp; omega)) _)).drew)) (fun hHeld => ?_)
              clear hK K
              (try simp only [Act.put, List.getElem_toArray, List.getElem_cons_zero, List.getElem_cons_succ, List.setIfInBounds_toArray, List.set_cons_zero, List.set_cons_succ])
              refine wpAnyH_ready (rs := [2, 7]) (by kernel_rfl) (by simp) ?_
              refine AllReadyH.cons rfl (fun K hK => ?_) ?_
              · skip
                go_simp
                refine (HBA.out _ sp1 _ (HS7.out.below hHeld.1 (Nat.le_refl _))).mono ?_
                rintro e wx1 ⟨rfl, hbx⟩
                have hA1 : wx1.heap[x7.heap.size]? = some (.cells #[.int .i64 0, .int .i64 0] 38 (0, 0)) := below_some hbx _ _ (heap_alloc_new x7 _)
                have HE1 := Lib.hid (Below.onto hbx hHeld.1)
                have he1 := HE1.out.size
                have hz1 := hbx.size
                (try simp at hz1)
                refine hK.out _ _ (HK.out _ HE1.out) (fun hHeld => ?_)
                clear hK K hbx
                (try simp only [Act.put, List.getElem_toArray, List.getElem_cons_zero, List.getElem_cons_succ, List.setIfInBounds_toArray, List.set_cons_zero, List.set_cons_succ])
                refine wpAnyH_ready (rs := [5, 7]) (by kernel_rfl) (by simp) ?_
                refine AllReadyH.cons rfl (fun K hK => ?_) ?_
                · skip
                  go_simp
                  refine (HBB.out _ sp2 _ (HT7.out.below hHeld.1 (Nat.le_refl _))).mono ?_
                  rintro e wx2 ⟨rfl, hbx⟩
                  have hA2 : wx2.heap[x7.heap.size]? = some (.cells #[.int .i64 0, .int .i64 0] 38 (0, 0)) := below_some hbx _ _ (hA1)
                  have HE2 := Lib.hid (Below.onto hbx hHeld.1)
                  have he2 := HE2.out.size
                  have hz2 := hbx.size
                  (try simp at hz2)
                  refine hK.out _ _ (HK.out _ HE2.out) (fun hHeld => ?_)
                  clear hK K hbx
                  (try simp only [Act.put, List.getElem_toArray, List.getElem_cons_zero, List.getElem_cons_succ, List.setIfInBounds_toArray, List.set_cons_zero, List.set_cons_succ])
                  refine wpAnyH_ready (rs := [7]) (by kernel_rfl) (by simp) ?_
                  refine AllReadyH.cons rfl (fun K hK => ?_) AllReadyH.nil
                  go_simp
                  refine hK.out _ _ (HK.out _ (by first | exact (Below.alloc (HE2.out) (by first | omega | (simp; done) | (simp; omega)) _) | exact ((Below.alloc (HE2.out) (by first | omega | (simp; done) | (simp; omega)) _)).drew)) (fun hHeld => ?_)
                  clear hK K
                  (try simp only [Act.put, List.getElem_toArray, List.getElem_cons_zero, List.getElem_cons_succ, List.setIfInBounds_toArray, List.set_cons_zero, List.set_cons_succ])
                  have hFA : (wx2.alloc (.cells #[.int .i64 0, .int .i64 0] 38)).heap[x7.heap.size]? = some (.cells #[.int .i64 0, .int .i64 0] 38 (0, 0)) := old_some (hA2)
                  have hFB : (wx2.alloc (.cells #[.int .i64 0, .int .i64 0] 38)).heap[wx2.heap.size]? = some (.cells #[.int .i64 0, .int .i64 0] 38 (0, 0)) := heap_alloc_new wx2 _
                  have hFW : Below x7.heap.size x7 (wx2.alloc (.cells #[.int .i64 0, .int .i64 0] 38)) := hHeld.1
                  have hne : x7.heap.size ≠ wx2.heap.size := by omega
                  have hgA : x7.heap.size ≤ x7.heap.size := by omega
                  have hgB : x7.heap.size ≤ wx2.heap.size := by omega
                  generalize (wx2.alloc (.cells #[.int .i64 0, .int .i64 0] 38)) = W9 at *
                  skip
                  skip
                  have a0 := cell_of_row W9 (x7.heap.size) 0 _ _ (0, 0) hFA
                  have a1 := cell_of_row W9 (x7.heap.size) 1 _ _ (0, 0) hFA
                  have b0 := cell_of_row W9 (wx2.heap.size) 0 _ _ (0, 0) hFB
                  have b1 := cell_of_row W9 (wx2.heap.size) 1 _ _ (0, 0) hFB
                  have fa0 := frozen_of_row W9 (x7.heap.size) 0 _ _ hFA
                  have fa1 := frozen_of_row W9 (x7.heap.size) 1 _ _ hFA
                  have fb0 := frozen_of_row W9 (wx2.heap.size) 0 _ _ hFB
                  have fb1 := frozen_of_row W9 (wx2.heap.size) 1 _ _ hFB
                  have hab : (x7.heap.size = wx2.heap.size) = False := eq_false hne
                  have hba : (wx2.heap.size = x7.heap.size) = False := eq_false (Ne.symm hne)
                  refine wpAnyH_ready (rs := [8]) (by kernel_rfl) (by simp) ?_
                  refine AllReadyH.cons rfl (fun K hK => ?_) AllReadyH.nil
                  go_simp
                  refine hK.out _ _ (HK.out _ (Below.setCell (Below.setCell hFW hgA _) hgA _)) (fun hHeld => ?_)
                  clear hK K
                  (try simp only [Act.put, List.getElem_toArray, List.getElem_cons_zero, List.getElem_cons_succ, List.setIfInBounds_toArray, List.set_cons_zero, List.set_cons_succ])
                  refine wpAnyH_ready (rs := [9]) (by kernel_rfl) (by simp) ?_
                  refine AllReadyH.cons rfl (fun K hK => ?_) AllReadyH.nil
                  go_simp
                  refine hK.out _ _ (HK.out _ (Below.setCell (Below.setCell (Below.setCell (Below.setCell hFW hgA _) hgA _) hgB _) hgB _)) (fun hHeld => ?_)
                  clear hK K
                  (try simp only [Act.put, List.getElem_toArray, List.getElem_cons_zero, List.getElem_cons_succ, List.setIfInBounds_toArray, List.set_cons_zero, List.set_cons_succ])
                  refine wpAnyH_done (by kernel_rfl) ?_ _
                  have HF := Lib.hid hHeld.1
                  clear hHeld a0 a1 b0 b1 fa0 fa1 fb0 fb1 hab hba
                  go_wp2_with fail
                  go_meet
                  case rel => exact ⟨_, _, rfl, rfl, (heap4 hne hFA hFB).1, (heap4 hne hFA hFB).2, HF.out⟩
                · refine AllReadyH.cons rfl (fun K hK => ?_) AllReadyH.nil
                  go_simp
                  refine hK.out _ _ (HK.out _ (by first | exact (Below.alloc (HE1.out) (by first | omega | (simp; done) | (simp; omega)) _) | exact ((Below.alloc (HE1.out) (by first | omega | (simp; done) | (simp; omega)) _)).drew)) (fun hHeld => ?_)
                  clear hK K
                  (try simp only [Act.put, List.getElem_toArray, List.getElem_cons_zero, List.getElem_cons_succ, List.setIfInBounds_toArray, List.set_cons_zero, List.set_cons_succ])
                  refine wpAnyH_ready (rs := [5]) (by kernel_rfl) (by simp) ?_
                  refine AllReadyH.cons rfl (fun K hK => ?_) AllReadyH.nil
                  go_simp
                  refine (HBB.out _ sp2 _ (HT7.out.below hHeld.1 (Nat.le_refl _))).mono ?_
                  rintro e wx2 ⟨rfl, hbx⟩
                  have hA2 : wx2.heap[x7.heap.size]? = some (.cells #[.int .i64 0, .int .i64 0] 38 (0, 0)) := below_some hbx _ _ (old_some (hA1))
                  have hB2 : wx2.heap[wx1.heap.size]? = some (.cells #[.int .i64 0, .int .i64 0] 38 (0, 0)) := below_some hbx _ _ (heap_alloc_new wx1 _)
                  have HE2 := Lib.hid (Below.onto hbx hHeld.1)
                  have he2 := HE2.out.size
                  have hz2 := hbx.size
                  (try simp at hz2)
                  refine hK.out _ _ (HK.out _ HE2.out) (fun hHeld => ?_)
                  clear hK K hbx
                  (try simp only [Act.put, List.getElem_toArray, List.getElem_cons_zero, List.getElem_cons_succ, List.setIfInBounds_toArray, List.set_cons_zero, List.set_cons_succ])
                  have hFA : wx2.heap[x7.heap.size]? = some (.cells #[.int .i64 0, .int .i64 0] 38 (0, 0)) := hA2
                  have hFB : wx2.heap[wx1.heap.size]? = some (.cells #[.int .i64 0, .int .i64 0] 38 (0, 0)) := hB2
                  have hFW : Below x7.heap.size x7 wx2 := hHeld.1
                  have hne : x7.heap.size ≠ wx1.heap.size := by omega
                  have hgA : x7.heap.size ≤ x7.heap.size := by omega
                  have hgB : x7.heap.size ≤ wx1.heap.size := by omega
                  generalize wx2 = W9 at *
                  skip
                  skip
                  have a0 := cell_of_row W9 (x7.heap.size) 0 _ _ (0, 0) hFA
                  have a1 := cell_of_row W9 (x7.heap.size) 1 _ _ (0, 0) hFA
                  have b0 := cell_of_row W9 (wx1.heap.size) 0 _ _ (0, 0) hFB
                  have b1 := cell_of_row W9 (wx1.heap.size) 1 _ _ (0, 0) hFB
                  have fa0 := frozen_of_row W9 (x7.heap.size) 0 _ _ hFA
                  have fa1 := frozen_of_row W9 (x7.heap.size) 1 _ _ hFA
                  have fb0 := frozen_of_row W9 (wx1.heap.size) 0 _ _ hFB
                  have fb1 := frozen_of_row W9 (wx1.heap.size) 1 _ _ hFB
                  have hab : (x7.heap.size = wx1.heap.size) = False := eq_false hne
                  have hba : (wx1.heap.size = x7.heap.size) = False := eq_false (Ne.symm hne)
                  refine wpAnyH_ready (rs := [8]) (by kernel_rfl) (by simp) ?_
                  refine AllReadyH.cons rfl (fun K hK => ?_) AllReadyH.nil
                  go_simp
                  refine hK.out _ _ (HK.out _ (Below.setCell (Below.setCell hFW hgA _) hgA _)) (fun hHeld => ?_)
                  clear hK K
                  (try simp only [Act.put, List.getElem_toArray, List.getElem_cons_zero, List.getElem_cons_succ, List.setIfInBounds_toArray, List.set_cons_zero, List.set_cons_succ])
                  refine wpAnyH_ready (rs := [9]) (by kernel_rfl) (by simp) ?_
                  refine AllReadyH.cons rfl (fun K hK => ?_) AllReadyH.nil
                  go_simp
                  refine hK.out _ _ (HK.out _ (Below.setCell (Below.setCell (Below.setCell (Below.setCell hFW hgA _) hgA _) hgB _) hgB _)) (fun hHeld => ?_)
                  clear hK K
                  (try simp only [Act.put, List.getElem_toArray, List.getElem_cons_zero, List.getElem_cons_succ, List.setIfInBounds_toArray, List.set_cons_zero, List.set_cons_succ])
                  refine wpAnyH_done (by kernel_rfl) ?_ _
                  have HF := Lib.hid hHeld.1
                  clear hHeld a0 a1 b0 b1 fa0 fa1 fb0 fb1 hab hba
                  go_wp2_with fail
                  go_meet
                  case rel => exact ⟨_, _, rfl, rfl, (heap4 hne hFA hFB).1, (heap4 hne hFA hFB).2, HF.out⟩
              · refine AllReadyH.cons rfl (fun K hK => ?_) AllReadyH.nil
                go_simp
                refine hK.out _ _ (HK.out _ (by first | exact (Below.alloc ((Below.alloc (Below.refl x7.heap.size x7) (by first | omega | (simp; done) | (simp; omega)) _)) (by first | omega | (simp; done) | (simp; omega)) _) | exact ((Below.alloc ((Below.alloc (Below.refl x7.heap.size x7) (by first | omega | (simp; done) | (simp; omega)) _)) (by first | omega | (simp; done) | (simp; omega)) _)).drew)) (fun hHeld => ?_)
                clear hK K
                (try simp only [Act.put, List.getElem_toArray, List.getElem_cons_zero, List.getElem_cons_succ, List.setIfInBounds_toArray, List.set_cons_zero, List.set_cons_succ])
                refine wpAnyH_ready (rs := [2]) (by kernel_rfl) (by simp) ?_
                refine AllReadyH.cons rfl (fun K hK => ?_) AllReadyH.nil
                go_simp
                refine (HBA.out _ sp1 _ (HS7.out.below hHeld.1 (Nat.le_refl _))).mono ?_
                rintro e wx1 ⟨rfl, hbx⟩
                have hA1 : wx1.heap[x7.heap.size]? = some (.cells #[.int .i64 0, .int .i64 0] 38 (0, 0)) := below_some hbx _ _ (old_some (heap_alloc_new x7 _))
                have hB1 : wx1.heap[x7.heap.size + 1]? = some (.cells #[.int .i64 0, .int .i64 0] 38 (0, 0)) := below_some hbx _ _ (heap_alloc2_new x7 _ _)
                have HE1 := Lib.hid (Below.onto hbx hHeld.1)
                have he1 := HE1.out.size
                have hz1 := hbx.size
                (try simp at hz1)
                refine hK.out _ _ (HK.out _ HE1.out) (fun hHeld => ?_)
                clear hK K hbx
                (try simp only [Act.put, List.getElem_toArray, List.getElem_cons_zero, List.getElem_cons_succ, List.setIfInBounds_toArray, List.set_cons_zero, List.set_cons_succ])
                refine wpAnyH_ready (rs := [5]) (by kernel_rfl) (by simp) ?_
                refine AllReadyH.cons rfl (fun K hK => ?_) AllReadyH.nil
                go_simp
                refine (HBB.out _ sp2 _ (HT7.out.below hHeld.1 (Nat.le_refl _))).mono ?_
                rintro e wx2 ⟨rfl, hbx⟩
                have hA2 : wx2.heap[x7.heap.size]? = some (.cells #[.int .i64 0, .int .i64 0] 38 (0, 0)) := below_some hbx _ _ (hA1)
                have hB2 : wx2.heap[x7.heap.size + 1]? = some (.cells #[.int .i64 0, .int .i64 0] 38 (0, 0)) := below_some hbx _ _ (hB1)
                have HE2 := Lib.hid (Below.onto hbx hHeld.1)
                have he2 := HE2.out.size
                have hz2 := hbx.size
                (try simp at hz2)
                refine hK.out _ _ (HK.out _ HE2.out) (fun hHeld => ?_)
                clear hK K hbx
                (try simp only [Act.put, List.getElem_toArray, List.getElem_cons_zero, List.getElem_cons_succ, List.setIfInBounds_toArray, List.set_cons_zero, List.set_cons_succ])
                have hFA : wx2.heap[x7.heap.size]? = some (.cells #[.int .i64 0, .int .i64 0] 38 (0, 0)) := hA2
                have hFB : wx2.heap[x7.heap.size + 1]? = some (.cells #[.int .i64 0, .int .i64 0] 38 (0, 0)) := hB2
                have hFW : Below x7.heap.size x7 wx2 := hHeld.1
                have hne : x7.heap.size ≠ x7.heap.size + 1 := by omega
                have hgA : x7.heap.size ≤ x7.heap.size := by omega
                have hgB : x7.heap.size ≤ x7.heap.size + 1 := by omega
                generalize wx2 = W9 at *
                skip
                skip
                have a0 := cell_of_row W9 (x7.heap.size) 0 _ _ (0, 0) hFA
                have a1 := cell_of_row W9 (x7.heap.size) 1 _ _ (0, 0) hFA
                have b0 := cell_of_row W9 (x7.heap.size + 1) 0 _ _ (0, 0) hFB
                have b1 := cell_of_row W9 (x7.heap.size + 1) 1 _ _ (0, 0) hFB
                have fa0 := frozen_of_row W9 (x7.heap.size) 0 _ _ hFA
                have fa1 := frozen_of_row W9 (x7.heap.size) 1 _ _ hFA
                have fb0 := frozen_of_row W9 (x7.heap.size + 1) 0 _ _ hFB
                have fb1 := frozen_of_row W9 (x7.heap.size + 1) 1 _ _ hFB
                have hab : (x7.heap.size = x7.heap.size + 1) = False := eq_false hne
                have hba : (x7.heap.size + 1 = x7.heap.size) = False := eq_false (Ne.symm hne)
                refine wpAnyH_ready (rs := [8]) (by kernel_rfl) (by simp) ?_
                refine AllReadyH.cons rfl (fun K hK => ?_) AllReadyH.nil
                go_simp
                refine hK.out _ _ (HK.out _ (Below.setCell (Below.setCell hFW hgA _) hgA _)) (fun hHeld => ?_)
                clear hK K
                (try simp only [Act.put, List.getElem_toArray, List.getElem_cons_zero, List.getElem_cons_succ, List.setIfInBounds_toArray, List.set_cons_zero, List.set_cons_succ])
                refine wpAnyH_ready (rs := [9]) (by kernel_rfl) (by simp) ?_
                refine AllReadyH.cons rfl (fun K hK => ?_) AllReadyH.nil
                go_simp
                refine hK.out _ _ (HK.out _ (Below.setCell (Below.setCell (Below.setCell (Below.setCell hFW hgA _) hgA _) hgB _) hgB _)) (fun hHeld => ?_)
                clear hK K
                (try simp only [Act.put, List.getElem_toArray, List.getElem_cons_zero, List.getElem_cons_succ, List.setIfInBounds_toArray, List.set_cons_zero, List.set_cons_succ])
                refine wpAnyH_done (by kernel_rfl) ?_ _
                have HF := Lib.hid hHeld.1
                clear hHeld a0 a1 b0 b1 fa0 fa1 fb0 fb1 hab hba
                go_wp2_with fail
                go_meet
                case rel => exact ⟨_, _, rfl, rfl, (heap4 hne hFA hFB).1, (heap4 hne hFA hFB).2, HF.out⟩
            · refine AllReadyH.cons rfl (fun K hK => ?_) AllReadyH.nil
              go_simp
              refine hK.out _ _ (HK.out _ (by first | exact (Below.alloc (Below.refl x7.heap.size x7) (by first | omega | (simp; done) | (simp; omega)) _) | exact ((Below.alloc (Below.refl x7.heap.size x7) (by first | omega | (simp; done) | (simp; omega)) _)).drew)) (fun hHeld => ?_)
              clear hK K
              (try simp only [Act.put, List.getElem_toArray, List.getElem_cons_zero, List.getElem_cons_succ, List.setIfInBounds_toArray, List.set_cons_zero, List.set_cons_succ])
              refine wpAnyH_ready (rs := [2, 6]) (by kernel_rfl) (by simp) ?_
              refine AllReadyH.cons rfl (fun K hK => ?_) ?_
              · skip
                go_simp
                refine (HBA.out _ sp1 _ (HS7.out.below hHeld.1 (Nat.le_refl _))).mono ?_
                rintro e wx1 ⟨rfl, hbx⟩
                have hB1 : wx1.heap[x7.heap.size]? = some (.cells #[.int .i64 0, .int .i64 0] 38 (0, 0)) := below_some hbx _ _ (heap_alloc_new x7 _)
                have HE1 := Lib.hid (Below.onto hbx hHeld.1)
                have he1 := HE1.out.size
                have hz1 := hbx.size
                (try simp at hz1)
                refine hK.out _ _ (HK.out _ HE1.out) (fun hHeld => ?_)
                clear hK K hbx
                (try simp only [Act.put, List.getElem_toArray, List.getElem_cons_zero, List.getElem_cons_succ, List.setIfInBounds_toArray, List.set_cons_zero, List.set_cons_succ])
                refine wpAnyH_ready (rs := [5, 6]) (by kernel_rfl) (by simp) ?_
                refine AllReadyH.cons rfl (fun K hK => ?_) ?_
                · skip
                  go_simp
                  refine (HBB.out _ sp2 _ (HT7.out.below hHeld.1 (Nat.le_refl _))).mono ?_
                  rintro e wx2 ⟨rfl, hbx⟩
                  have hB2 : wx2.heap[x7.heap.size]? = some (.cells #[.int .i64 0, .int .i64 0] 38 (0, 0)) := below_some hbx _ _ (hB1)
                  have HE2 := Lib.hid (Below.onto hbx hHeld.1)
                  have he2 := HE2.out.size
                  have hz2 := hbx.size
                  (try simp at hz2)
                  refine hK.out _ _ (HK.out _ HE2.out) (fun hHeld => ?_)
                  clear hK K hbx
                  (try simp only [Act.put, List.getElem_toArray, List.getElem_cons_zero, List.getElem_cons_succ, List.setIfInBounds_toArray, List.set_cons_zero, List.set_cons_succ])
                  refine wpAnyH_ready (rs := [6]) (by kernel_rfl) (by simp) ?_
                  refine AllReadyH.cons rfl (fun K hK => ?_) AllReadyH.nil
                  go_simp
                  refine hK.out _ _ (HK.out _ (by first | exact (Below.alloc (HE2.out) (by first | omega | (simp; done) | (simp; omega)) _) | exact ((Below.alloc (HE2.out) (by first | omega | (simp; done) | (simp; omega)) _)).drew)) (fun hHeld => ?_)
                  clear hK K
                  (try simp only [Act.put, List.getElem_toArray, List.getElem_cons_zero, List.getElem_cons_succ, List.setIfInBounds_toArray, List.set_cons_zero, List.set_cons_succ])
                  have hFA : (wx2.alloc (.cells #[.int .i64 0, .int .i64 0] 38)).heap[wx2.heap.size]? = some (.cells #[.int .i64 0, .int .i64 0] 38 (0, 0)) := heap_alloc_new wx2 _
                  have hFB : (wx2.alloc (.cells #[.int .i64 0, .int .i64 0] 38)).heap[x7.heap.size]? = some (.cells #[.int .i64 0, .int .i64 0] 38 (0, 0)) := old_some (hB2)
                  have hFW : Below x7.heap.size x7 (wx2.alloc (.cells #[.int .i64 0, .int .i64 0] 38)) := hHeld.1
                  have hne : wx2.heap.size ≠ x7.heap.size := by omega
                  have hgA : x7.heap.size ≤ wx2.heap.size := by omega
                  have hgB : x7.heap.size ≤ x7.heap.size := by omega
                  generalize (wx2.alloc (.cells #[.int .i64 0, .int .i64 0] 38)) = W9 at *
                  skip
                  skip
                  have a0 := cell_of_row W9 (wx2.heap.size) 0 _ _ (0, 0) hFA
                  have a1 := cell_of_row W9 (wx2.heap.size) 1 _ _ (0, 0) hFA
                  have b0 := cell_of_row W9 (x7.heap.size) 0 _ _ (0, 0) hFB
                  have b1 := cell_of_row W9 (x7.heap.size) 1 _ _ (0, 0) hFB
                  have fa0 := frozen_of_row W9 (wx2.heap.size) 0 _ _ hFA
                  have fa1 := frozen_of_row W9 (wx2.heap.size) 1 _ _ hFA
                  have fb0 := frozen_of_row W9 (x7.heap.size) 0 _ _ hFB
                  have fb1 := frozen_of_row W9 (x7.heap.size) 1 _ _ hFB
                  have hab : (wx2.heap.size = x7.heap.size) = False := eq_false hne
                  have hba : (x7.heap.size = wx2.heap.size) = False := eq_false (Ne.symm hne)
                  refine wpAnyH_ready (rs := [8]) (by kernel_rfl) (by simp) ?_
                  refine AllReadyH.cons rfl (fun K hK => ?_) AllReadyH.nil
                  go_simp
                  refine hK.out _ _ (HK.out _ (Below.setCell (Below.setCell hFW hgA _) hgA _)) (fun hHeld => ?_)
                  clear hK K
                  (try simp only [Act.put, List.getElem_toArray, List.getElem_cons_zero, List.getElem_cons_succ, List.setIfInBounds_toArray, List.set_cons_zero, List.set_cons_succ])
                  refine wpAnyH_ready (rs := [9]) (by kernel_rfl) (by simp) ?_
                  refine AllReadyH.cons rfl (fun K hK => ?_) AllReadyH.nil
                  go_simp
                  refine hK.out _ _ (HK.out _ (Below.setCell (Below.setCell (Below.setCell (Below.setCell hFW hgA _) hgA _) hgB _) hgB _)) (fun hHeld => ?_)
                  clear hK K
                  (try simp only [Act.put, List.getElem_toArray, List.getElem_cons_zero, List.getElem_cons_succ, List.setIfInBounds_toArray, List.set_cons_zero, List.set_cons_succ])
                  refine wpAnyH_done (by kernel_rfl) ?_ _
                  have HF := Lib.hid hHeld.1
                  clear hHeld a0 a1 b0 b1 fa0 fa1 fb0 fb1 hab hba
                  go_wp2_with fail
                  go_meet
                  case rel => exact ⟨_, _, rfl, rfl, (heap4 hne hFA hFB).1, (heap4 hne hFA hFB).2, HF.out⟩
                · refine AllReadyH.cons rfl (fun K hK => ?_) AllReadyH.nil
                  go_simp
                  refine hK.out _ _ (HK.out _ (by first | exact (Below.alloc (HE1.out) (by first | omega | (simp; done) | (simp; omega)) _) | exact ((Below.alloc (HE1.out) (by first | omega | (simp; done) | (simp; omega)) _)).drew)) (fun hHeld => ?_)
                  clear hK K
                  (try simp only [Act.put, List.getElem_toArray, List.getElem_cons_zero, List.getElem_cons_succ, List.setIfInBounds_toArray, List.set_cons_zero, List.set_cons_succ])
                  refine wpAnyH_ready (rs := [5]) (by kernel_rfl) (by simp) ?_
                  refine AllReadyH.cons rfl (fun K hK => ?_) AllReadyH.nil
                  go_simp
                  refine (HBB.out _ sp2 _ (HT7.out.below hHeld.1 (Nat.le_refl _))).mono ?_
                  rintro e wx2 ⟨rfl, hbx⟩
                  have hA2 : wx2.heap[wx1.heap.size]? = some (.cells #[.int .i64 0, .int .i64 0] 38 (0, 0)) := below_some hbx _ _ (heap_alloc_new wx1 _)
                  have hB2 : wx2.heap[x7.heap.size]? = some (.cells #[.int .i64 0, .int .i64 0] 38 (0, 0)) := below_some hbx _ _ (old_some (hB1))
                  have HE2 := Lib.hid (Below.onto hbx hHeld.1)
                  have he2 := HE2.out.size
                  have hz2 := hbx.size
                  (try simp at hz2)
                  refine hK.out _ _ (HK.out _ HE2.out) (fun hHeld => ?_)
                  clear hK K hbx
                  (try simp only [Act.put, List.getElem_toArray, List.getElem_cons_zero, List.getElem_cons_succ, List.setIfInBounds_toArray, List.set_cons_zero, List.set_cons_succ])
                  have hFA : wx2.heap[wx1.heap.size]? = some (.cells #[.int .i64 0, .int .i64 0] 38 (0, 0)) := hA2
                  have hFB : wx2.heap[x7.heap.size]? = some (.cells #[.int .i64 0, .int .i64 0] 38 (0, 0)) := hB2
                  have hFW : Below x7.heap.size x7 wx2 := hHeld.1
                  have hne : wx1.heap.size ≠ x7.heap.size := by omega
                  have hgA : x7.heap.size ≤ wx1.heap.size := by omega
                  have hgB : x7.heap.size ≤ x7.heap.size := by omega
                  generalize wx2 = W9 at *
                  skip
                  skip
                  have a0 := cell_of_row W9 (wx1.heap.size) 0 _ _ (0, 0) hFA
                  have a1 := cell_of_row W9 (wx1.heap.size) 1 _ _ (0, 0) hFA
                  have b0 := cell_of_row W9 (x7.heap.size) 0 _ _ (0, 0) hFB
                  have b1 := cell_of_row W9 (x7.heap.size) 1 _ _ (0, 0) hFB
                  have fa0 := frozen_of_row W9 (wx1.heap.size) 0 _ _ hFA
                  have fa1 := frozen_of_row W9 (wx1.heap.size) 1 _ _ hFA
                  have fb0 := frozen_of_row W9 (x7.heap.size) 0 _ _ hFB
                  have fb1 := frozen_of_row W9 (x7.heap.size) 1 _ _ hFB
                  have hab : (wx1.heap.size = x7.heap.size) = False := eq_false hne
                  have hba : (x7.heap.size = wx1.heap.size) = False := eq_false (Ne.symm hne)
                  refine wpAnyH_ready (rs := [8]) (by kernel_rfl) (by simp) ?_
                  refine AllReadyH.cons rfl (fun K hK => ?_) AllReadyH.nil
                  go_simp
                  refine hK.out _ _ (HK.out _ (Below.setCell (Below.setCell hFW hgA _) hgA _)) (fun hHeld => ?_)
                  clear hK K
                  (try simp only [Act.put, List.getElem_toArray, List.getElem_cons_zero, List.getElem_cons_succ, List.setIfInBounds_toArray, List.set_cons_zero, List.set_cons_succ])
                  refine wpAnyH_ready (rs := [9]) (by kernel_rfl) (by simp) ?_
                  refine AllReadyH.cons rfl (fun K hK => ?_) AllReadyH.nil
                  go_simp
                  refine hK.out _ _ (HK.out _ (Below.setCell (Below.setCell (Below.setCell (Below.setCell hFW hgA _) hgA _) hgB _) hgB _)) (fun hHeld => ?_)
                  clear hK K
                  (try simp only [Act.put, List.getElem_toArray, List.getElem_cons_zero, List.getElem_cons_succ, List.setIfInBounds_toArray, List.set_cons_zero, List.set_cons_succ])
                  refine wpAnyH_done (by kernel_rfl) ?_ _
                  have HF := Lib.hid hHeld.1
                  clear hHeld a0 a1 b0 b1 fa0 fa1 fb0 fb1 hab hba
                  go_wp2_with fail
                  go_meet
                  case rel => exact ⟨_, _, rfl, rfl, (heap4 hne hFA hFB).1, (heap4 hne hFA hFB).2, HF.out⟩
              · refine AllReadyH.cons rfl (fun K hK => ?_) AllReadyH.nil
                go_simp
                refine hK.out _ _ (HK.out _ (by first | exact (Below.alloc ((Below.alloc (Below.refl x7.heap.size x7) (by first | omega | (simp; done) | (simp; omega)) _)) (by first | omega | (simp; done) | (simp; omega)) _) | exact ((Below.alloc ((Below.alloc (Below.refl x7.heap.size x7) (by first | omega | (simp; done) | (simp; omega)) _)) (by first | omega | (simp; done) | (simp; omega)) _)).drew)) (fun hHeld => ?_)
                clear hK K
                (try simp only [Act.put, List.getElem_toArray, List.getElem_cons_zero, List.getElem_cons_succ, List.setIfInBounds_toArray, List.set_cons_zero, List.set_cons_succ])
                refine wpAnyH_ready (rs := [2]) (by kernel_rfl) (by simp) ?_
                refine AllReadyH.cons rfl (fun K hK => ?_) AllReadyH.nil
                go_simp
                refine (HBA.out _ sp1 _ (HS7.out.below hHeld.1 (Nat.le_refl _))).mono ?_
                rintro e wx1 ⟨rfl, hbx⟩
                have hA1 : wx1.heap[x7.heap.size + 1]? = some (.cells #[.int .i64 0, .int .i64 0] 38 (0, 0)) := below_some hbx _ _ (heap_alloc2_new x7 _ _)
                have hB1 : wx1.heap[x7.heap.size]? = some (.cells #[.int .i64 0, .int .i64 0] 38 (0, 0)) := below_some hbx _ _ (old_some (heap_alloc_new x7 _))
                have HE1 := Lib.hid (Below.onto hbx hHeld.1)
                have he1 := HE1.out.size
                have hz1 := hbx.size
                (try simp at hz1)
                refine hK.out _ _ (HK.out _ HE1.out) (fun hHeld => ?_)
                clear hK K hbx
                (try simp only [Act.put, List.getElem_toArray, List.getElem_cons_zero, List.getElem_cons_succ, List.setIfInBounds_toArray, List.set_cons_zero, List.set_cons_succ])
                refine wpAnyH_ready (rs := [5]) (by kernel_rfl) (by simp) ?_
                refine AllReadyH.cons rfl (fun K hK => ?_) AllReadyH.nil
                go_simp
                refine (HBB.out _ sp2 _ (HT7.out.below hHeld.1 (Nat.le_refl _))).mono ?_
                rintro e wx2 ⟨rfl, hbx⟩
                have hA2 : wx2.heap[x7.heap.size + 1]? = some (.cells #[.int .i64 0, .int .i64 0] 38 (0, 0)) := below_some hbx _ _ (hA1)
                have hB2 : wx2.heap[x7.heap.size]? = some (.cells #[.int .i64 0, .int .i64 0] 38 (0, 0)) := below_some hbx _ _ (hB1)
                have HE2 := Lib.hid (Below.onto hbx hHeld.1)
                have he2 := HE2.out.size
                have hz2 := hbx.size
                (try simp at hz2)
                refine hK.out _ _ (HK.out _ HE2.out) (fun hHeld => ?_)
                clear hK K hbx
                (try simp only [Act.put, List.getElem_toArray, List.getElem_cons_zero, List.getElem_cons_succ, List.setIfInBounds_toArray, List.set_cons_zero, List.set_cons_succ])
                have hFA : wx2.heap[x7.heap.size + 1]? = some (.cells #[.int .i64 0, .int .i64 0] 38 (0, 0)) := hA2
                have hFB : wx2.heap[x7.heap.size]? = some (.cells #[.int .i64 0, .int .i64 0] 38 (0, 0)) := hB2
                have hFW : Below x7.heap.size x7 wx2 := hHeld.1
                have hne : x7.heap.size + 1 ≠ x7.heap.size := by omega
                have hgA : x7.heap.size ≤ x7.heap.size + 1 := by omega
                have hgB : x7.heap.size ≤ x7.heap.size := by omega
                generalize wx2 = W9 at *
                skip
                skip
                have a0 := cell_of_row W9 (x7.heap.size + 1) 0 _ _ (0, 0) hFA
                have a1 := cell_of_row W9 (x7.heap.size + 1) 1 _ _ (0, 0) hFA
                have b0 := cell_of_row W9 (x7.heap.size) 0 _ _ (0, 0) hFB
                have b1 := cell_of_row W9 (x7.heap.size) 1 _ _ (0, 0) hFB
                have fa0 := frozen_of_row W9 (x7.heap.size + 1) 0 _ _ hFA
                have fa1 := frozen_of_row W9 (x7.heap.size + 1) 1 _ _ hFA
                have fb0 := frozen_of_row W9 (x7.heap.size) 0 _ _ hFB
                have fb1 := frozen_of_row W9 (x7.heap.size) 1 _ _ hFB
                have hab : (x7.heap.size + 1 = x7.heap.size) = False := eq_false hne
                have hba : (x7.heap.size = x7.heap.size + 1) = False := eq_false (Ne.symm hne)
                refine wpAnyH_ready (rs := [8]) (by kernel_rfl) (by simp) ?_
                refine AllReadyH.cons rfl (fun K hK => ?_) AllReadyH.nil
                go_simp
                refine hK.out _ _ (HK.out _ (Below.setCell (Below.setCell hFW hgA _) hgA _)) (fun hHeld => ?_)
                clear hK K
                (try simp only [Act.put, List.getElem_toArray, List.getElem_cons_zero, List.getElem_cons_succ, List.setIfInBounds_toArray, List.set_cons_zero, List.set_cons_succ])
                refine wpAnyH_ready (rs := [9]) (by kernel_rfl) (by simp) ?_
                refine AllReadyH.cons rfl (fun K hK => ?_) AllReadyH.nil
                go_simp
                refine hK.out _ _ (HK.out _ (Below.setCell (Below.setCell (Below.setCell (Below.setCell hFW hgA _) hgA _) hgB _) hgB _)) (fun hHeld => ?_)
                clear hK K
                (try simp only [Act.put, List.getElem_toArray, List.getElem_cons_zero, List.getElem_cons_succ, List.setIfInBounds_toArray, List.set_cons_zero, List.set_cons_succ])
                refine wpAnyH_done (by kernel_rfl) ?_ _
                have HF := Lib.hid hHeld.1
                clear hHeld a0 a1 b0 b1 fa0 fa1 fb0 fb1 hab hba
                go_wp2_with fail
                go_meet
                case rel => exact ⟨_, _, rfl, rfl, (heap4 hne hFA hFB).1, (heap4 hne hFA hFB).2, HF.out⟩
          /- ENDTWO -/
        obtain ⟨b13, b14, rfl, rfl, hv13, hv14, hbd⟩ := hcut
        have u0 : wc.cell? ⟨b13, 0, none⟩ = some (.int .i64 p1) := cell_of_row wc b13 0 _ _ (0, 0) hv13
        have u1 : wc.cell? ⟨b13, 1, none⟩ = some (.int .i64 p2) := cell_of_row wc b13 1 _ _ (0, 0) hv13
        have v0 : wc.cell? ⟨b14, 0, none⟩ = some (.int .i64 q1) := cell_of_row wc b14 0 _ _ (0, 0) hv14
        have v1 : wc.cell? ⟨b14, 1, none⟩ = some (.int .i64 q2) := cell_of_row wc b14 1 _ _ (0, 0) hv14
        clear hv13 hv14
        have HS8 := Lib.hid (HS7.out.below hbd (Nat.le_refl _))
        have HT8 := Lib.hid (HT7.out.below hbd (Nat.le_refl _))
        have HX8 := Lib.hid (Below.onto hbd HX7.out)
        have hv8 := (hbd.block bR hRl).trans HV7.out
        have k1 : wc.cell? ⟨bR, 1, none⟩ = some (.int .i64 yb) := cell_of_row wc bR 1 _ _ (0, 0) hv8
        clear hbd hv8 HS7 HT7 HX7 HV7 HK hRl
        have hbx8 := (HX8.out.block bF (Array.getElem?_eq_some_iff.1 HXC.out).1).trans HXC.out
        have HBX8 := Lib.hid hbx8
        have x2 : wc.cell? ⟨bF, 2, none⟩ = some (.int .i64 f.y0) := cell_of_row wc bF 2 _ _ (0, 0) hbx8
        have HW8 := Lib.hid (Below.onto HX8.out HBC.out)
        have hcl := fun (k : Nat) base sp w h => clear_any L (k : Int) y base sp w h HSDL.out
        have hcm := fun (k : Nat) base sp w h => clear_any M (k : Int) y base sp w h HSDM.out
        have hmc : ∀ k : Nat, clrS (k : Int) L y ≤ clrS (k : Int) M y := fun k => by rw [← HM.out]; exact clr_more _ L f y
        have hla := fun base sp w h => last_any M base sp w h
        have hlm : (lastS M).2 = true ∧ f.y0 ≤ (lastS M).1 := by rw [← HM.out, lastS_snoc]; exact ⟨rch_true _ _, rch_ge _ _⟩
        unfold EdgePost at hla
        generalize lastS M = lm at *
        obtain ⟨ln, lt⟩ := lm
        simp only at hlm hla
        obtain ⟨hlt1, hln⟩ := hlm
        subst hlt1
        unfold IntPost at hcl hcm
        have HCL := Lib.hid hcl
        have HCM := Lib.hid hcm
        have HMC := Lib.hid hmc
        have HLA := Lib.hid hla
        have d1 : decide (q1 < p1) = false := decide_eq_false (by have := HMB.out.1; omega)
        have d2 : decide (p2 < q2) = false := decide_eq_false (by have := HMB.out.2; omega)
        have d5 : decide (f.y0 ≤ ln) = true := decide_eq_true hln
        clear hcl hcm hmc hla hbx8 hln
        have hfin : ∀ w9, Below wc.heap.size wc w9 → SpaceIs w9 x3.heap.size sp1 L ∧ True := fun w9 hb => ⟨HS8.out.below hb (Nat.le_refl _), trivial⟩
        clear hfin
        by_cases hy9 : yb ≤ f.y0
        · have d3 : decide (yb ≤ f.y0) = true := decide_eq_true hy9
          obtain ⟨e1, e2⟩ := HME.out hy9
          subst e1
          subst e2
          clear HME HMB hy9
          go_wp2_with fail
          go_loopw [97] (fun x wr => ∃ k : Nat, k ≤ 4 ∧ x = .int .i64 k ∧ Hid (Below wc.heap.size wc wr)) (fun x _ => 4 - (intOf x).toNat)
          case atStart => exact ⟨0, by omega, rfl, Lib.hid (Below.refl _ _)⟩
          case round =>
            obtain ⟨k, hk, rfl, hI⟩ := hrel
            by_cases hlt : k < 4
            · have hm := HMC.out k
              have hca := fun base sp w h => HCL.out k base sp w h
              have hcb := fun base sp w h => HCM.out k base sp w h
              generalize clrS (k : Int) L y = ca at *
              generalize clrS (k : Int) M y = cb at *
              have d6 : decide (cb < ca) = false := decide_eq_false (by omega)
              have HCA := Lib.hid hca
              have HCB := Lib.hid hcb
              clear hm hca hcb
              go_wp2_with fail
              refine (HCB.out _ sp2 wr (HT8.out.below hI.out (Nat.le_refl _))).mono ?_
              rintro e y1 ⟨rfl, hb1⟩
              have HY1 := Lib.hid (Below.onto hb1 hI.out)
              clear hb1
              go_wp2_with fail
              refine (HCA.out _ sp1 y1 (HS8.out.below HY1.out (Nat.le_refl _))).mono ?_
              rintro e y2 ⟨rfl, hb2⟩
              have HY2 := Lib.hid (Below.onto hb2 HY1.out)
              clear hb2
              go_wp2_with fail
              go_roundw
              case rel => exact ⟨k + 1, by omega, by go_num, HY2⟩
              case measure => simp [intOf]; omega
            · have HI := Lib.hid hI.out
              clear hI
              go_wp2_with fail
              refine (HLA.out _ sp2 wr (HT8.out.below HI.out (Nat.le_refl _))).mono ?_
              rintro e y3 ⟨rfl, hb3⟩
              have HY3 := Lib.hid (Below.onto hb3 HI.out)
              have hx3 := (HY3.out.block bF (Array.getElem?_eq_some_iff.1 HBX8.out).1).trans HBX8.out
              have x3' : y3.cell? ⟨bF, 2, none⟩ = some (.int .i64 f.y0) := cell_of_row y3 bF 2 _ _ (0, 0) hx3
              clear hb3 hx3
              go_wp2_with fail
              go_ret
              exact ⟨rfl, Below.onto HY3.out HW8.out⟩
        · have d3 : decide (yb ≤ f.y0) = false := decide_eq_false hy9
          clear HME HMB hy9
          go_wp2_with fail
          go_loopw [97] (fun x wr => ∃ k : Nat, k ≤ 4 ∧ x = .int .i64 k ∧ Hid (Below wc.heap.size wc wr)) (fun x _ => 4 - (intOf x).toNat)
          case atStart => exact ⟨0, by omega, rfl, Lib.hid (Below.refl _ _)⟩
          case round =>
            obtain ⟨k, hk, rfl, hI⟩ := hrel
            by_cases hlt : k < 4
            · have hm := HMC.out k
              have hca := fun base sp w h => HCL.out k base sp w h
              have hcb := fun base sp w h => HCM.out k base sp w h
              generalize clrS (k : Int) L y = ca at *
              generalize clrS (k : Int) M y = cb at *
              have d6 : decide (cb < ca) = false := decide_eq_false (by omega)
              have HCA := Lib.hid hca
              have HCB := Lib.hid hcb
              clear hm hca hcb
              go_wp2_with fail
              refine (HCB.out _ sp2 wr (HT8.out.below hI.out (Nat.le_refl _))).mono ?_
              rintro e y1 ⟨rfl, hb1⟩
              have HY1 := Lib.hid (Below.onto hb1 hI.out)
              clear hb1
              go_wp2_with fail
              refine (HCA.out _ sp1 y1 (HS8.out.below HY1.out (Nat.le_refl _))).mono ?_
              rintro e y2 ⟨rfl, hb2⟩
              have HY2 := Lib.hid (Below.onto hb2 HY1.out)
              clear hb2
              go_wp2_with fail
              go_roundw
              case rel => exact ⟨k + 1, by omega, by go_num, HY2⟩
              case measure => simp [intOf]; omega
            · have HI := Lib.hid hI.out
              clear hI
              go_wp2_with fail
              refine (HLA.out _ sp2 wr (HT8.out.below HI.out (Nat.le_refl _))).mono ?_
              rintro e y3 ⟨rfl, hb3⟩
              have HY3 := Lib.hid (Below.onto hb3 HI.out)
              have hx3 := (HY3.out.block bF (Array.getElem?_eq_some_iff.1 HBX8.out).1).trans HBX8.out
              have x3' : y3.cell? ⟨bF, 2, none⟩ = some (.int .i64 f.y0) := cell_of_row y3 bF 2 _ _ (0, 0) hx3
              clear hb3 hx3
              go_wp2_with fail
              go_ret
              exact ⟨rfl, Below.onto HY3.out HW8.out⟩
end Go.Proofs.Ythinaifeifnefaa
