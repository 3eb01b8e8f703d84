/- The law SpaceFirst. (Printed by wip/gen_sfi.py.) -/
import Derived.Test.YtecojcdmigmnhaaSfc
import Derived.Test.YtecojcdmigmnhaaFsb
import Derived.Test.YtecojcdmigmnhaaRs
import Derived.Laws.EntriesVeiled
namespace Go.Proofs.Ytecojcdmigmnhaa
set_option linter.unusedSimpArgs false
set_option linter.unusedVariables false
open Go.RowKit
theorem grown_ext {w9 wr wq w2 : World} {bT : Nat} {own : Option Nat} (h : w9.grownBy wr (some bT)) (hb : Below wr.heap.size wr wq) (hg : wq.grownBy w2 own) (ho : own = some bT ∨ ∃ b, w9.heap.size ≤ b ∧ own = some b) : w9.grownBy w2 (some bT) := by
  have h1 := h.size
  have h2 := hb.size
  refine ⟨hg.os.trans (hb.os.trans h.os), hg.tape.trans (hb.tape.trans h.tape), hg.output.trans (hb.output.trans h.output), by have := hg.size; omega, fun k hk hne => ?_⟩
  have e1 := h.block k hk hne
  have e2 := hb.block k (by omega)
  refine (hg.block k (by omega) (fun e => ?_)).trans (e2.trans e1)
  rcases ho with ho | ⟨b, hb', ho⟩
  · exact hne (by rw [← ho]; exact e)
  · rw [ho] at e
    injection e with e
    omega
/-- What stands while the tops are listed. -/
def TInv (F : List Sh) (y : Int) (w7 w9 : World) (k : Nat) (tv : Value) (wr : World) : Prop :=
  w9.grownBy wr (some w7.heap.size) ∧ Ints wr w7.heap.size tv (topsF F y k) ∧ (tv.ownBlock = some w7.heap.size ∨ ∃ b, w9.heap.size ≤ b ∧ tv.ownBlock = some b)
theorem keepS {w w' : World} {b : Nat} {o : Obj} (h : w.heap[b]? = some o) (hb : Below w.heap.size w w') : w'.heap[b]? = some o := (hb.block b (Array.getElem?_eq_some_iff.1 h).1).trans h
set_option maxRecDepth 20000 in
set_option maxHeartbeats 8000000 in
theorem spaceFirst_any (L : List Fo) (v : Value) (y wd ht : Int) (w : World) (h : IsFos w v L) (hn : L.length ≤ maxLen) (hw : 0 ≤ wd ∧ wd ≤ 255) (hh : 0 ≤ ht ∧ ht ≤ 255) : Calls Try.prog 4 #[v, .int .i64 y, .int .u8 wd, .int .u8 ht] w fun e w' => e = .returned (.bool true) ∧ Below w.heap.size w w' := by
  obtain ⟨A, cap0, rfl, hx1, hx2⟩ := id h
  clear hx1 hx2
  obtain ⟨b4, hb4⟩ : ∃ b, w.heap.size = b := ⟨_, rfl⟩
  obtain ⟨W0, hW0⟩ : ∃ W, ((w.alloc (.cells #[.slice A L.length cap0] 31)).alloc (.cells #[.int .u8 wd] 5)).alloc (.cells #[.int .u8 ht] 5) = W := ⟨_, rfl⟩
  have g4 : W0.heap[b4]? = some (.cells #[.slice A L.length cap0] 31 (0, 0)) := by rw [← hW0, ← hb4, heap_alloc_old _ _ (by first | (simp; done) | (simp; omega)), heap_alloc_old _ _ (by first | (simp; done) | (simp; omega))]; exact heap_alloc_new w _
  have g6 : W0.heap[b4 + 1]? = some (.cells #[.int .u8 wd] 5 (0, 0)) := by rw [← hW0, ← hb4, heap_alloc_old _ _ (by first | (simp; done) | (simp; omega))]; exact heap_alloc2_new w _ _
  have g7 : W0.heap[b4 + 1 + 1]? = some (.cells #[.int .u8 ht] 5 (0, 0)) := by
    rw [← hW0, ← hb4]
    have h := heap_alloc_new ((w.alloc (.cells #[.slice A L.length cap0] 31)).alloc (.cells #[.int .u8 wd] 5)) (.cells #[.int .u8 ht] 5)
    simpa using h
  have hB0 : Below w.heap.size w W0 := by rw [← hW0]; exact (((Below.refl _ _).alloc (Nat.le_refl _) _).alloc (by simp) _).alloc (by first | (simp; done) | (simp; omega)) _
  have hz0 : W0.heap.size = b4 + 3 := by rw [← hW0, ← hb4]; simp
  have HF0 := Lib.hid (h.below hB0 (Nat.le_refl _))
  have hfe := fun w h => few_any (.slice A L.length cap0) L 30 w h hn
  have hsi := fun w h => sides_any (.slice A L.length cap0) L w h hn
  have HW0 := Lib.hid hW0
  have HBN := Lib.hid hb4
  have HB0 := Lib.hid hB0
  have G4 := Lib.hid g4
  have G6 := Lib.hid g6
  have G7 := Lib.hid g7
  have HZ0 := Lib.hid hz0
  clear hW0 hb4 hB0 g4 g6 g7 h hz0
  have hcs : (fewB L 30 = false) ∨ (fewB L 30 = true ∧ sided L = false) ∨ (fewB L 30 = true ∧ sided L = true ∧ decide (1125899906842624 < y) = true) ∨ (fewB L 30 = true ∧ sided L = true ∧ decide (1125899906842624 < y) = false ∧ decide (y < -1125899906842624) = true) ∨
      (fewB L 30 = true ∧ sided L = true ∧ decide (1125899906842624 < y) = false ∧ decide (y < -1125899906842624) = false) := by
    cases fewB L 30 <;> cases sided L <;> cases decide (1125899906842624 < y) <;> cases decide (y < -1125899906842624) <;> simp
  rcases hcs with k1 | ⟨k1, k2⟩ | ⟨k1, k2, d1⟩ | ⟨k1, k2, d1, d2⟩ | ⟨k1, k2, d1, d2⟩
  · rw [k1] at hfe
    have HFE := Lib.hid hfe
    clear hfe hsi k1
    go_enter Try.func4, Try.ntmps4
    go_wp2_with fail
    rw [HW0.out, HBN.out]
    go_wp2_with fail
    refine (speaks10_any W0).mono ?_
    rintro e w1 ⟨rfl, hb1⟩
    have HB1 := Lib.hid (Below.onto hb1 (Below.refl W0.heap.size W0))
    have c4 : w1.cell? ⟨b4, 0, none⟩ = some (.slice A L.length cap0) := cell_of_row w1 b4 0 _ _ (0, 0) (keepS G4.out HB1.out)
    clear hb1
    go_wp2_with fail
    refine (HFE.out w1 (HF0.out.below HB1.out (Nat.le_refl _))).mono ?_
    rintro e w2 ⟨rfl, hb2⟩
    have HB2 := Lib.hid (Below.onto hb2 HB1.out)
    clear hb2 c4
    go_wp2_with fail
    refine (speaks10_any _).mono ?_
    rintro e w8 ⟨rfl, hb8⟩
    have HB8 := Lib.hid (Below.onto hb8 HB2.out)
    clear hb8
    go_wp2_with fail
    go_ret
    exact ⟨rfl, Below.onto HB8.out HB0.out⟩
  · rw [k1] at hfe
    rw [k2] at hsi
    have HFE := Lib.hid hfe
    have HSI := Lib.hid hsi
    clear hfe hsi k1 k2
    go_enter Try.func4, Try.ntmps4
    go_wp2_with fail
    rw [HW0.out, HBN.out]
    go_wp2_with fail
    refine (speaks10_any W0).mono ?_
    rintro e w1 ⟨rfl, hb1⟩
    have HB1 := Lib.hid (Below.onto hb1 (Below.refl W0.heap.size W0))
    have c4 : w1.cell? ⟨b4, 0, none⟩ = some (.slice A L.length cap0) := cell_of_row w1 b4 0 _ _ (0, 0) (keepS G4.out HB1.out)
    clear hb1
    go_wp2_with fail
    refine (HFE.out w1 (HF0.out.below HB1.out (Nat.le_refl _))).mono ?_
    rintro e w2 ⟨rfl, hb2⟩
    have HB2 := Lib.hid (Below.onto hb2 HB1.out)
    clear hb2 c4
    have c4 : w2.cell? ⟨b4, 0, none⟩ = some (.slice A L.length cap0) := cell_of_row w2 b4 0 _ _ (0, 0) (keepS G4.out HB2.out)
    go_wp2_with fail
    refine (HSI.out w2 (HF0.out.below HB2.out (Nat.le_refl _))).mono ?_
    rintro e w3 ⟨rfl, hb3⟩
    have HB3 := Lib.hid (Below.onto hb3 HB2.out)
    clear hb3 c4
    go_wp2_with fail
    refine (speaks10_any _).mono ?_
    rintro e w8 ⟨rfl, hb8⟩
    have HB8 := Lib.hid (Below.onto hb8 HB3.out)
    clear hb8
    go_wp2_with fail
    go_ret
    exact ⟨rfl, Below.onto HB8.out HB0.out⟩
  iterate 2
    · rw [k1] at hfe
      rw [k2] at hsi
      have HFE := Lib.hid hfe
      have HSI := Lib.hid hsi
      clear hfe hsi k1 k2
      go_enter Try.func4, Try.ntmps4
      go_wp2_with fail
      rw [HW0.out, HBN.out]
      go_wp2_with fail
      refine (speaks10_any W0).mono ?_
      rintro e w1 ⟨rfl, hb1⟩
      have HB1 := Lib.hid (Below.onto hb1 (Below.refl W0.heap.size W0))
      have c4 : w1.cell? ⟨b4, 0, none⟩ = some (.slice A L.length cap0) := cell_of_row w1 b4 0 _ _ (0, 0) (keepS G4.out HB1.out)
      clear hb1
      go_wp2_with fail
      refine (HFE.out w1 (HF0.out.below HB1.out (Nat.le_refl _))).mono ?_
      rintro e w2 ⟨rfl, hb2⟩
      have HB2 := Lib.hid (Below.onto hb2 HB1.out)
      clear hb2 c4
      have c4 : w2.cell? ⟨b4, 0, none⟩ = some (.slice A L.length cap0) := cell_of_row w2 b4 0 _ _ (0, 0) (keepS G4.out HB2.out)
      go_wp2_with fail
      refine (HSI.out w2 (HF0.out.below HB2.out (Nat.le_refl _))).mono ?_
      rintro e w3 ⟨rfl, hb3⟩
      have HB3 := Lib.hid (Below.onto hb3 HB2.out)
      clear hb3 c4
      go_wp2_with fail
      refine (speaks10_any _).mono ?_
      rintro e w8 ⟨rfl, hb8⟩
      have HB8 := Lib.hid (Below.onto hb8 HB3.out)
      clear hb8
      go_wp2_with fail
      go_ret
      exact ⟨rfl, Below.onto HB8.out HB0.out⟩
  · have hsm := (few_small k1).1
    rw [k1] at hfe
    rw [k2] at hsi
    have HFE := Lib.hid hfe
    have HSI := Lib.hid hsi
    have hbg := fun w h => begin10_any (.slice A L.length cap0) L w h (by have := (few_small k1).2; omega) hsm (sided_at k2)
    unfold BegSpPost at hbg
    have HBG := Lib.hid hbg
    have HSM := Lib.hid hsm
    have HLE := Lib.hid (few_small k1).2
    clear hfe hsi hbg hsm k1 k2
    go_enter Try.func4, Try.ntmps4
    go_wp2_with fail
    rw [HW0.out, HBN.out]
    go_wp2_with fail
    refine (speaks10_any W0).mono ?_
    rintro e w1 ⟨rfl, hb1⟩
    have HB1 := Lib.hid (Below.onto hb1 (Below.refl W0.heap.size W0))
    have c4 : w1.cell? ⟨b4, 0, none⟩ = some (.slice A L.length cap0) := cell_of_row w1 b4 0 _ _ (0, 0) (keepS G4.out HB1.out)
    clear hb1
    go_wp2_with fail
    refine (HFE.out w1 (HF0.out.below HB1.out (Nat.le_refl _))).mono ?_
    rintro e w2 ⟨rfl, hb2⟩
    have HB2 := Lib.hid (Below.onto hb2 HB1.out)
    clear hb2 c4
    have c4 : w2.cell? ⟨b4, 0, none⟩ = some (.slice A L.length cap0) := cell_of_row w2 b4 0 _ _ (0, 0) (keepS G4.out HB2.out)
    go_wp2_with fail
    refine (HSI.out w2 (HF0.out.below HB2.out (Nat.le_refl _))).mono ?_
    rintro e w3 ⟨rfl, hb3⟩
    have HB3 := Lib.hid (Below.onto hb3 HB2.out)
    clear hb3 c4
    have c4 : w3.cell? ⟨b4, 0, none⟩ = some (.slice A L.length cap0) := cell_of_row w3 b4 0 _ _ (0, 0) (keepS G4.out HB3.out)
    go_wp2_with fail
    refine (HBG.out w3 (HF0.out.below HB3.out (Nat.le_refl _))).mono ?_
    rintro e w5 ⟨sp, rfl, hs5, hb5⟩
    have HS5 := Lib.hid hs5
    have HB5 := Lib.hid (Below.onto hb5 HB3.out)
    clear hs5 hb5 c4
    go_wp2_with fail
    obtain ⟨W, hW⟩ : ∃ W, (w5.alloc (.cells #[.func (.func 19) #[] #[.pointer (some ⟨b4, 0, none⟩), .pointer (some ⟨b4 + 1 + 1, 0, none⟩), .pointer (some ⟨b4 + 1, 0, none⟩)]] 38)).alloc (.cells #[.slice none 0 0] 22) = W := ⟨_, rfl⟩
    obtain ⟨b10, hb10⟩ : ∃ b, w5.heap.size = b := ⟨_, rfl⟩
    have hzW : W.heap.size = b10 + 2 := by rw [← hW, ← hb10]; simp
    have g10 : W.heap[b10]? = some (.cells #[.func (.func 19) #[] #[.pointer (some ⟨b4, 0, none⟩), .pointer (some ⟨b4 + 1 + 1, 0, none⟩), .pointer (some ⟨b4 + 1, 0, none⟩)]] 38 (0, 0)) := by rw [← hW, ← hb10, heap_alloc_old _ _ (by simp)]; exact heap_alloc_new w5 _
    have g11 : W.heap[b10 + 1]? = some (.cells #[.slice none 0 0] 22 (0, 0)) := by rw [← hW, ← hb10]; exact heap_alloc2_new w5 _ _
    have hb5W : Below w5.heap.size w5 W := by rw [← hW]; exact ((Below.refl _ _).alloc (Nat.le_refl _) _).alloc (by simp) _
    have hB0W : Below W0.heap.size W0 W := Below.onto hb5W HB5.out
    have hz5 := HB5.out.size
    have hbW : ∀ w', Below (b10 + 1) W w' → Below W0.heap.size W0 w' := fun w' hb => hB0W.trans (hb.mono (by omega))
    have hFo : ∀ w', Below (b10 + 1) W w' → IsFos w' (.slice A L.length cap0) L := fun w' hb => HF0.out.below (hbW w' hb) (Nat.le_refl _)
    have hSp : ∀ w', Below (b10 + 1) W w' → SpaceIs w' w3.heap.size sp L := fun w' hb => HS5.out.below (hb5W.trans (hb.mono (by omega))) (Nat.le_refl _)
    have hz0 := HZ0.out
    have k4 := keepS G4.out hB0W
    have k6 := keepS G6.out hB0W
    have k7 := keepS G7.out hB0W
    have hok : SpOk L := ⟨fun f hf => by
      have h := HSM.out f hf
      unfold smallF smallR smI at h
      simp only [Bool.and_eq_true, decide_eq_true_eq] at h
      unfold far
      omega, by have := HLE.out; omega⟩
    have hdy1 := of_decide_eq_false d1
    have hdy2 := of_decide_eq_false d2
    have hrl : (rest (full (shelves L)) y).length ≤ 10000 := by
      have h1 : (rest (full (shelves L)) y).length ≤ (full (shelves L)).length := by unfold rest; rw [List.length_drop]; omega
      have h2 : (full (shelves L)).length = (shelves L).length + 1 := rfl
      have h3 := shelves_length L
      have h4 := HLE.out
      omega
    have hfi := first_b_any L (soF L (wd % 20) (ht % 12)) 22 #[.pointer (some ⟨b10 + 1, 0, none⟩), .pointer (some ⟨b10, 0, none⟩)] w3.heap.size sp (FsI L (.slice A L.length cap0) b4 (b4 + 1) (b4 + 1 + 1) b10 (b10 + 1) W) (fun y => -4503599627370496 ≤ y ∧ y ≤ 4503599627370496)
      (fun y w => cf_ask _ w) (fun _ w' h => hSp w' h.1)
      (fun A' w2 w3' h hb => by
        obtain ⟨h1, h2, av, h3, h4⟩ := h
        exact ⟨h1.trans (hb.mono (by omega)), Nat.le_trans h2 hb.size, av, keepS h3 hb, h4.below hb⟩)
      hok y
      (fun A' z w2 h hz hl => asked_any L (.slice A L.length cap0) wd ht z b4 (b4 + 1 + 1) (b4 + 1) b10 (b10 + 1) _ _ _ _ W A' w2 hFo hn HSM.out hw hh hz k4 k7 k6 g10 (by omega) (by omega) (by omega) (by omega) (by omega) (by have := ask_len (soF L (wd % 20) (ht % 12)) (rest (full (shelves L)) y) y; omega) h)
      (by omega) (fun s hs => by
        rcases List.mem_cons.1 hs with rfl | hs
        · decide
        · obtain ⟨f, hf, e⟩ := tops_in L s hs
          have h := HSM.out f hf
          unfold smallF smallR smI at h
          simp only [Bool.and_eq_true, decide_eq_true_eq] at h
          rcases e with e | e <;> (rw [e]; omega)) W ⟨Below.refl _ _, Nat.le_refl _, _, g11, Ints.nil _ _⟩
    unfold FirstPost at hfi
    have HFI := Lib.hid hfi
    have HW := Lib.hid hW
    have HB10 := Lib.hid hb10
    have HFO := Lib.hid hFo
    have HBWF := Lib.hid hbW
    have HOK := Lib.hid hok
    have HZW := Lib.hid hzW
    have K4 := Lib.hid k4
    have K6 := Lib.hid k6
    have K7 := Lib.hid k7
    have G10 := Lib.hid g10
    have HRL := Lib.hid hrl
    clear hfi hW hb10 hFo hSp hok hzW g10 g11 hb5W hB0W hz5 hbW hrl k4 k6 k7 hz0
    rw [HW.out, HB10.out]
    refine HFI.out.mono ?_
    rintro e w7 ⟨rfl, hb7, hz7, av, hv7, hi7⟩
    have hlow : Lowish L := fun f hf => by
      have h := HSM.out f hf
      unfold smallF smallR smI at h
      simp only [Bool.and_eq_true, decide_eq_true_eq] at h
      unfold far
      omega
    have hfst := soF_first (L := L) (wd := wd % 20) (h := ht % 12) (y := y) hlow (by unfold far; omega) (by omega)
    have hsofn : ∀ z w', Below (b10 + 1) W w' → -4503599627370496 ≤ z ∧ z ≤ 4503599627370496 → Calls Try.prog 19 #[.int .i64 z, .pointer (some ⟨b4, 0, none⟩), .pointer (some ⟨b4 + 1 + 1, 0, none⟩), .pointer (some ⟨b4 + 1, 0, none⟩)] w' fun e w'' => e = .returned (.bool (soF L (wd % 20) (ht % 12) z)) ∧ Below w'.heap.size w' w'' := fun z w' hb hz =>
      sof_any L (.slice A L.length cap0) wd ht z b4 (b4 + 1 + 1) (b4 + 1) _ _ _ w' (HFO.out w' hb) hn HSM.out hw hh hz ((hb.block b4 (by have := (Array.getElem?_eq_some_iff.1 K4.out).1; have := HZW.out; have := HZ0.out; have := HB5.out.size; have := HB10.out; omega)).trans K4.out) ((hb.block (b4 + 1 + 1) (by have := HZ0.out; have := HB5.out.size; have := HB10.out; omega)).trans K7.out) ((hb.block (b4 + 1) (by have := HZ0.out; have := HB5.out.size; have := HB10.out; omega)).trans K6.out)
    have hsh := fun w h => rshelves_any L (.slice A L.length cap0) w h (by have := HLE.out; omega) hlow
    unfold RsPost at hsh
    have hasc : Asc (full (shelves L)) := HOK.out.asc
    have hmem : ∀ x ∈ (rest (full (shelves L)) y).map (·.t), -4503599627370496 ≤ x ∧ x ≤ 4503599627370496 := fun x hx => by
      obtain ⟨s, hs, rfl⟩ := List.mem_map.1 hx
      have hs' : s ∈ full (shelves L) := List.mem_of_mem_drop hs
      rcases List.mem_cons.1 hs' with rfl | hs'
      · decide
      · obtain ⟨f, hf, e⟩ := tops_in L s hs'
        have h := HSM.out f hf
        unfold smallF smallR smI at h
        simp only [Bool.and_eq_true, decide_eq_true_eq] at h
        rcases e with e | e <;> (rw [e]; omega)
    have hFpos : 0 < (full (shelves L)).length := Nat.succ_pos _
    have hFlen : (full (shelves L)).length ≤ 10000 := by
      have h2 : (full (shelves L)).length = (shelves L).length + 1 := rfl
      have h3 := shelves_length L
      have h4 := HLE.out
      omega
    have htk := fun n => ask_take (soF L (wd % 20) (ht % 12)) (rest (full (shelves L)) y) y n
    obtain ⟨so, hso0⟩ : ∃ s, soF L (wd % 20) (ht % 12) = s := ⟨_, rfl⟩
    rw [hso0] at hfst hsofn htk hi7 ⊢
    obtain ⟨F, hF0⟩ : ∃ F, full (shelves L) = F := ⟨_, rfl⟩
    rw [hF0] at hfst hsh hasc hmem hFpos hFlen htk hi7 ⊢
    obtain ⟨at', hat0⟩ : ∃ a, firstL so y (rest F y) = a := ⟨_, rfl⟩
    obtain ⟨ask, hask0⟩ : ∃ a, askL so y (rest F y) = a := ⟨_, rfl⟩
    rw [hat0] at hfst htk ⊢
    rw [hask0] at htk hi7
    have htend := topsF_end hasc y
    have htlen := topsF_len F y
    have htst := fun k hk => topsF_step (F := F) (y := y) (k := k) hk
    have HFST := Lib.hid hfst
    have HSO := Lib.hid hsofn
    have HSH := Lib.hid hsh
    have HMEM := Lib.hid hmem
    have HTK := Lib.hid htk
    have HTE := Lib.hid htend
    have HTL := Lib.hid htlen
    have HTS := Lib.hid htst
    have HB7 := Lib.hid hb7
    have HV7 := Lib.hid hv7
    have HI7 := Lib.hid hi7
    have HFP := Lib.hid hFpos
    have HFL := Lib.hid hFlen
    clear hfst hsofn hsh hasc hmem hFpos htk hat0 hask0 htend htlen htst hb7 hv7 hi7 hso0 hF0 hlow HFI
    obtain ⟨W8, hW8⟩ : ∃ W, w7.alloc (.cells #[.int .i64 y] 3) = W := ⟨_, rfl⟩
    have hi8 : Ints W8 w7.heap.size (.slice (some ⟨w7.heap.size, 0, none⟩) 1 1) [y] := by rw [← hW8]; exact World.ownsRow_lit w7 #[.int .i64 y] 1 (Nat.le_refl _) (by decide) rfl
    have hb78 : Below w7.heap.size w7 W8 := by rw [← hW8]; exact (Below.refl _ _).alloc (Nat.le_refl _) _
    have hz8 : W8.heap.size = w7.heap.size + 1 := by rw [← hW8]; simp
    have hz7' : b10 + 2 ≤ w7.heap.size := by have := HZW.out; omega
    have hbX8 : Below (b10 + 1) W W8 := HB7.out.trans (hb78.mono (by omega))
    have c4 : W8.cell? ⟨b4, 0, none⟩ = some (.slice A L.length cap0) := cell_of_row W8 b4 0 _ _ (0, 0) ((hbX8.block b4 (by have := HZ0.out; have := HB5.out.size; have := HB10.out; omega)).trans K4.out)
    have HI8 := Lib.hid hi8
    have HBX8 := Lib.hid hbX8
    have HB78 := Lib.hid hb78
    have HW8 := Lib.hid hW8
    have HZ8 := Lib.hid hz8
    have c4' : w7.cell? ⟨b4, 0, none⟩ = some (.slice A L.length cap0) := cell_of_row w7 b4 0 _ _ (0, 0) ((HB7.out.block b4 (by have := HZ0.out; have := HB5.out.size; have := HB10.out; omega)).trans K4.out)
    have hb4l : b4 < w7.heap.size := by have := HZ0.out; have := HB5.out.size; have := HB10.out; omega
    clear hi8 hb78 hbX8 hW8 hz8 c4
    go_wp2_with fail
    rw [HW8.out]
    refine (HSH.out W8 (HFO.out W8 HBX8.out)).mono ?_
    rintro e w9 ⟨v9, rfl, ho9, hb9⟩
    obtain ⟨g9, cap9, rfl, _, hg9, hgl9⟩ := own_form ho9 HFP.out rfl
    have HO9 := Lib.hid ho9
    have HB9 := Lib.hid hb9
    clear ho9 hb9 c4' hb4l
    go_wp2_with fail
    go_loopw [13, 55] (fun tv x wr => ∃ k : Nat, k ≤ F.length ∧ x = .int .i64 k ∧ Hid (TInv F y w7 w9 k tv wr)) (fun _ x _ => F.length - (intOf x).toNat)
    case atStart => exact ⟨0, by omega, rfl, Lib.hid ⟨grown_of_below (Below.refl _ _) _, (HI8.out.below HB9.out), .inl rfl⟩⟩
    case round =>
      obtain ⟨k, hk, rfl, hI⟩ := hrel
      obtain ⟨hgw, hti, hto⟩ := id hI.out
      obtain ⟨ad, cv, rfl⟩ := ints_slice hti
      have htl := HTL.out k
      have hfl := HFL.out
      by_cases hlt : k < F.length
      · have hbs := hgw.size
        have hne9 : g9 ≠ w7.heap.size := by have := HZ8.out; omega
        have hcel : ∀ (j : Nat) (u : Value), (shC F[k])[j]? = some u → wr.cell? ⟨g9, k * 3 + j, none⟩ = some u := fun j u hu => by
          have hj : j < 3 := (List.getElem?_eq_some_iff.1 hu).1
          have h1 : wr.cell? ⟨g9, k * 3 + j, none⟩ = w9.cell? ⟨g9, k * 3 + j, none⟩ := World.cell?_of_block (w := w9) (hgw.block g9 hgl9 (fun e => by injection e with e; first | exact hne9 e | exact hne9 e.symm))
          rw [h1, HO9.out.cellAt _ (by omega), flat_get shC_len F k j hlt hj]
          exact hu
        have s0 := hcel 0 _ rfl
        have s1 := hcel 1 _ rfl
        have s2 := hcel 2 _ rfl
        rw [Nat.add_zero] at s0
        have hgl : g9 < wr.heap.size := by omega
        have hst := HTS.out k hlt
        have HST := Lib.hid hst
        have HGW := Lib.hid hgw
        have HTI := Lib.hid hti
        have HTO := Lib.hid hto
        clear hst hgw hti hto hI hcel
        generalize F[k].t = t at *
        generalize F[k].l = l at *
        generalize F[k].r = r at *
        by_cases hyt : y < t
        · have hdt := decide_eq_true hyt
          have hwa := (Below.refl wr.heap.size wr).alloc (Nat.le_refl _) (.cells #[.int .i64 t, .int .i64 l, .int .i64 r] 43)
          have hwb := hwa.alloc hwa.size (.cells #[.int .i64 t] 3)
          have HWB := Lib.hid hwb
          have h7l : w7.heap.size ≤ wr.heap.size := by have := HB9.out.size; have := HZ8.out; omega
          have HOB := Lib.hid (((HTI.out.alloc (.cells #[.int .i64 t, .int .i64 l, .int .i64 r] 43)).alloc (.cells #[.int .i64 t] 3)))
          clear hwa hwb
          go_wp2_with (first
            | ((with_reducible refine store_new (dst := none) 43 (.tmp 15) (.tmp 58) wr _ #[.int .i64 t, .int .i64 l, .int .i64 r] 43 rfl ?_ ?_ ?_ ?_ ?_ ?_); rfl; rfl; exact rshInfo; rfl; (simp [Value.oneCell']))
            | (at_builtin; refine app1 _ rfl (.tmp 63) (.tmp 66) rfl w7.heap.size (.slice ad (topsF F y k).length cv) (topsF F y k) rfl HOB.out (wr.heap.size + 1) 1 rfl t (cell_new (by simp) rfl) (by omega) (by simp; omega) ?_; intro av2 w2 hI2 hg2 hn2; have HI2 := Lib.hid hI2; have HG2 := Lib.hid hg2; have HN2 := Lib.hid hn2; clear hI2 hg2 hn2))
          have hU : TInv F y w7 w9 (k + 1) av2 w2 := by
            refine ⟨grown_ext HGW.out HWB.out HG2.out HTO.out, ?_, ?_⟩
            · rw [HST.out, if_pos hyt]
              exact HI2.out
            · rcases HN2.out with e | e
              · rw [e]
                exact HTO.out
              · right
                exact ⟨_, by simp; omega, e⟩
          have HU := Lib.hid hU
          clear hU
          go_wp2_with fail
          go_roundw
          case rel => exact ⟨k + 1, by omega, by go_num, HU⟩
          case measure => simp [intOf]; omega
        · have hdt := decide_eq_false hyt
          have hU : ∀ w2, Below wr.heap.size wr w2 → TInv F y w7 w9 (k + 1) (.slice ad (topsF F y k).length cv) w2 := fun w2 hb => by
            refine ⟨grown_ext HGW.out hb (grown_of_below (Below.refl _ _) (some w7.heap.size)) (.inl rfl), ?_, HTO.out⟩
            have h := HTI.out.below hb
            have e := HST.out
            rw [if_neg hyt] at e
            rw [e]
            exact h
          have HU := Lib.hid hU
          clear hU
          go_wp2_with (first
            | ((with_reducible refine store_new (dst := none) 43 (.tmp 15) (.tmp 58) wr _ #[.int .i64 t, .int .i64 l, .int .i64 r] 43 rfl ?_ ?_ ?_ ?_ ?_ ?_); rfl; rfl; exact rshInfo; rfl; (simp [Value.oneCell'])))
          go_roundw
          case rel => exact ⟨k + 1, by omega, by go_num, Lib.hid (HU.out _ ((Below.refl wr.heap.size wr).alloc (Nat.le_refl _) _))⟩
          case measure => simp [intOf]; omega
      · have hkr : k = F.length := by omega
        subst hkr
        rw [HTE.out] at hti htl ⊢
        obtain ⟨T, hT0⟩ : ∃ T, y :: (rest F y).map (·.t) = T := ⟨_, rfl⟩
        have htk := HTK.out
        have hTm : ∀ n, n < T.length → -4503599627370496 ≤ T.getD n 0 ∧ T.getD n 0 ≤ 4503599627370496 := fun n hn' => by
          have hm : T.getD n 0 ∈ T := by
            rw [List.getD_eq_getElem?_getD, List.getElem?_eq_getElem hn']
            exact List.getElem_mem hn'
          rw [← hT0] at hm
          rcases List.mem_cons.1 hm with e | hm
          · rw [← hT0, e]; omega
          · rw [hT0] at hm; exact HMEM.out _ hm
        have hTp : 0 < T.length := by rw [← hT0]; simp
        rw [hT0] at hti htl htk ⊢
        have hTk := Lib.hid htk
        clear htk hT0
        have hz8 := HZ8.out
        have hzW := HZW.out
        have hbx9 : Below (b10 + 1) W w9 := HBX8.out.trans (HB9.out.mono (by omega))
        have hbx : Below (b10 + 1) W wr := hbx9.grown hgw (by have := HB9.out.size; omega) (fun k hk => by injection hk with hk; omega)
        have hv9 := keepS (keepS HV7.out HB78.out) HB9.out
        have hvr : wr.heap[b10 + 1]? = some (.cells #[av] 22 (0, 0)) := (hgw.block (b10 + 1) (by have := HB9.out.size; omega) (fun e => by injection e with e; omega)).trans hv9
        have hir := Ints.kept ((HI7.out.below HB78.out).below HB9.out) hgw (by
          cases hob : av.ownBlock with
          | none => left; rfl
          | some kk =>
            right
            intro e
            injection e with e
            have := (HI7.out.lt hob).2
            omega)
        obtain ⟨ad2, cv2, hav⟩ := ints_slice hir
        subst hav
        obtain ⟨A1, cp1, he1, _, hr1⟩ := hti.reads
        injection he1 with he1 he2 he3
        subst he1
        obtain ⟨gT, oT, hadT, hgT, hcT⟩ := hr1 hTp
        subst hadT
        have h10r := (hbx.block b10 (by omega)).trans G10.out
        have HBX := Lib.hid hbx
        have HVR := Lib.hid hvr
        have HIR := Lib.hid hir
        have HCT := Lib.hid hcT
        have H10 := Lib.hid h10r
        have HTM := Lib.hid hTm
        have hT1 : T.length ≤ 20000 := by omega
        clear hgw hti hto hI hbx hvr hir hcT h10r hr1 hTm hv9 hbx9 htl HB9 HO9 HB78 HI8 HI7 HV7 HB7 HRL HTL HTS HTE HMEM HTK HFL HFP
        go_wp2_with fail
        have HTK2 := hTk
        clear hTk
        obtain ⟨w10, hw10⟩ : ∃ w, wr = w := ⟨_, rfl⟩
        rw [hw10] at HBX HVR HIR HCT H10 hgT ⊢
        clear hw10
        go_loopw [16] (fun x wx => ∃ n : Nat, n < T.length ∧ x = .int .i64 n ∧ Hid ((∀ m, m < n → so (T.getD m 0) = false) ∧ Below w10.heap.size w10 wx)) (fun x _ => T.length - (intOf x).toNat)
        case atStart => exact ⟨0, hTp, rfl, Lib.hid ⟨fun m hm => by omega, Below.refl _ _⟩⟩
        case round =>
          obtain ⟨n, hnl, rfl, hJ⟩ := hrel
          obtain ⟨hmm, hbw⟩ := id hJ.out
          obtain ⟨tn, htn⟩ : ∃ x, T.getD n 0 = x := ⟨_, rfl⟩
          have hbB : ∀ w', Below wr.heap.size wr w' → Below (b10 + 1) W w' := fun w' hb => HBX.out.trans ((Below.onto hb hbw).mono (by have := HBX.out.size; have := HZW.out; omega))
          have hctn := HCT.out n hnl
          rw [htn] at hctn
          have HK : Hid (∀ w', Below wr.heap.size wr w' → Below wr.heap.size wr w' ∧ w'.cell? ⟨b10, 0, none⟩ = some (.func (.func 19) #[] #[.pointer (some ⟨b4, 0, none⟩), .pointer (some ⟨b4 + 1 + 1, 0, none⟩), .pointer (some ⟨b4 + 1, 0, none⟩)]) ∧ w'.cell? ⟨gT, oT + n, none⟩ = some (.int .i64 tn)) := fun w' hb =>
            ⟨hb, cell_of_row w' b10 0 _ _ (0, 0) (keepS H10.out (Below.onto hb hbw)), ((Below.onto hb hbw).cell (p := ⟨gT, oT + n, none⟩) hgT).trans hctn⟩
          have hcl := fun w' (hb : Below wr.heap.size wr w') => HSO.out tn w' (hbB w' hb) (by rw [← htn]; exact HTM.out n hnl)
          have HMM := Lib.hid hmm
          have HBW1 := Lib.hid hbw
          have hwl : IntKind.i64.wrap ((T.length : Int) - 1) = (T.length : Int) - 1 := by rw [IntKind.wrap_i64]; omega
          clear hJ hmm hbw hbB hctn HBX8
          by_cases hlast : (n : Int) < (T.length : Int) - 1
          · have hdl := decide_eq_true hlast
            cases hs : so tn with
            | true =>
              rw [hs] at hcl
              have HCL := Lib.hid hcl
              clear hcl
              go_wp2_with fail
              refine wp_region_held_drew (S := (fun w' => Below wr.heap.size wr w' ∧ w'.cell? ⟨b10, 0, none⟩ = some (.func (.func 19) #[] #[.pointer (some ⟨b4, 0, none⟩), .pointer (some ⟨b4 + 1 + 1, 0, none⟩), .pointer (some ⟨b4 + 1, 0, none⟩)]) ∧ w'.cell? ⟨gT, oT + n, none⟩ = some (.int .i64 tn))) (by kernel_rfl) (HK.out _ ((Below.refl _ _).drew)) (fun hHeld => ?_)
              refine wpAnyH_take (i := 0) (v := ?_) rfl (by kernel_rfl) (by kernel_rfl) (by kernel_rfl) (fun _ _ _ h => h) (Or.inl ⟨by rfl, ?_⟩) (by assumption) ?_
              rotate_left
              focus ((intro wS hSw; (try dsimp only at hSw); go_simp); (try (with_reducible rfl)))
              simp only [Act.put, List.getElem_toArray, List.getElem_cons_zero, List.getElem_cons_succ, List.setIfInBounds_toArray, List.set_cons_zero, List.set_cons_succ]
              refine wpAnyH_take (i := 1) (v := ?_) rfl (by kernel_rfl) (by kernel_rfl) (by kernel_rfl) (fun _ _ _ h => h) (Or.inl ⟨by rfl, ?_⟩) (by assumption) ?_
              rotate_left
              focus ((intro wS hSw; (try dsimp only at hSw); go_simp); (try (with_reducible rfl)))
              simp only [Act.put, List.getElem_toArray, List.getElem_cons_zero, List.getElem_cons_succ, List.setIfInBounds_toArray, List.set_cons_zero, List.set_cons_succ]
              refine wpAnyH_take (i := 2) (v := ?_) rfl (by kernel_rfl) (by kernel_rfl) (by kernel_rfl) (fun _ _ _ h => h) (Or.inl ⟨by rfl, ?_⟩) (by assumption) ?_
              rotate_left
              focus ((intro wS hSw; (try dsimp only at hSw); go_simp); (try (with_reducible rfl)))
              simp only [Act.put, List.getElem_toArray, List.getElem_cons_zero, List.getElem_cons_succ, List.setIfInBounds_toArray, List.set_cons_zero, List.set_cons_succ]
              refine wpAnyH_take (i := 3) (v := ?_) rfl (by kernel_rfl) (by kernel_rfl) (by kernel_rfl) (fun _ _ _ h => h) (Or.inl ⟨by rfl, ?_⟩) (by assumption) ?_
              rotate_left
              focus ((intro wS hSw; (try dsimp only at hSw); go_simp); (try (with_reducible rfl)))
              simp only [Act.put, List.getElem_toArray, List.getElem_cons_zero, List.getElem_cons_succ, List.setIfInBounds_toArray, List.set_cons_zero, List.set_cons_succ]
              refine wpAnyH_take (i := 4) (v := ?_) rfl (by kernel_rfl) (by kernel_rfl) (by kernel_rfl) (fun _ _ _ h => h) (Or.inl ⟨by rfl, ?_⟩) (by assumption) ?_
              rotate_left
              focus ((intro wS hSw; (try dsimp only at hSw); go_simp); (try (with_reducible rfl)))
              simp only [Act.put, List.getElem_toArray, List.getElem_cons_zero, List.getElem_cons_succ, List.setIfInBounds_toArray, List.set_cons_zero, List.set_cons_succ]
              refine wpAnyH_take (i := 5) (v := ?_) rfl (by kernel_rfl) (by kernel_rfl) (by kernel_rfl) (fun _ _ _ h => h) (Or.inl ⟨by rfl, ?_⟩) (by assumption) ?_
              rotate_left
              focus ((intro wS hSw; (try dsimp only at hSw); go_simp); (try (with_reducible rfl)))
              simp only [Act.put, List.getElem_toArray, List.getElem_cons_zero, List.getElem_cons_succ, List.setIfInBounds_toArray, List.set_cons_zero, List.set_cons_succ]
              refine wpAnyH_take (i := 6) (v := ?_) rfl (by kernel_rfl) (by kernel_rfl) (by kernel_rfl) (fun _ _ _ h => h) (Or.inl ⟨by rfl, ?_⟩) (by assumption) ?_
              rotate_left
              focus ((intro wS hSw; (try dsimp only at hSw); go_simp); (try (with_reducible rfl)))
              simp only [Act.put, List.getElem_toArray, List.getElem_cons_zero, List.getElem_cons_succ, List.setIfInBounds_toArray, List.set_cons_zero, List.set_cons_succ]
              refine wpAnyH_take (i := 7) (v := ?_) rfl (by kernel_rfl) (by kernel_rfl) (by kernel_rfl) (fun _ _ _ h => h) (Or.inl ⟨by rfl, ?_⟩) (by assumption) ?_
              rotate_left
              focus ((intro wS hSw; (try dsimp only at hSw); go_simp); (try (with_reducible rfl)))
              simp only [Act.put, List.getElem_toArray, List.getElem_cons_zero, List.getElem_cons_succ, List.setIfInBounds_toArray, List.set_cons_zero, List.set_cons_succ]
              refine wpAnyH_take (i := 8) (v := ?_) rfl (by kernel_rfl) (by kernel_rfl) (by kernel_rfl) (fun _ _ _ h => h) (Or.inl ⟨by rfl, ?_⟩) (by assumption) ?_
              rotate_left
              focus ((intro wS hSw; (try dsimp only at hSw); go_simp); (try (with_reducible rfl)))
              simp only [Act.put, List.getElem_toArray, List.getElem_cons_zero, List.getElem_cons_succ, List.setIfInBounds_toArray, List.set_cons_zero, List.set_cons_succ]
              refine wpAnyH_take (i := 9) (v := ?_) rfl (by kernel_rfl) (by kernel_rfl) (by kernel_rfl) (fun _ _ _ h => h) (Or.inl ⟨by rfl, ?_⟩) (by assumption) ?_
              rotate_left
              focus ((intro wS hSw; (try dsimp only at hSw); go_simp); (try (with_reducible rfl)))
              simp only [Act.put, List.getElem_toArray, List.getElem_cons_zero, List.getElem_cons_succ, List.setIfInBounds_toArray, List.set_cons_zero, List.set_cons_succ]
              refine wpAnyH_take (i := 10) (v := ?_) rfl (by kernel_rfl) (by kernel_rfl) (by kernel_rfl) (fun _ _ _ h => h) (Or.inl ⟨by rfl, ?_⟩) (by assumption) ?_
              rotate_left
              focus ((intro wS hSw; (try dsimp only at hSw); go_simp); (try (with_reducible rfl)))
              simp only [Act.put, List.getElem_toArray, List.getElem_cons_zero, List.getElem_cons_succ, List.setIfInBounds_toArray, List.set_cons_zero, List.set_cons_succ]
              refine wpAnyH_ready (rs := [11]) (by kernel_rfl) (by simp) ?_
              refine AllReadyH.cons rfl (fun K hK => ?_) AllReadyH.nil
              go_simp
              refine (HCL.out _ ((Below.refl _ _).drew)).mono ?_
              rintro e w11 ⟨rfl, hbx⟩
              have HE := Lib.hid (show Below wr.heap.size wr w11 from Below.drewL hbx)
              clear hbx
              refine hK.out _ _ (HK.out _ HE.out) (fun hHeld => ?_)
              clear hK K
              (try simp only [Act.put, List.getElem_toArray, List.getElem_cons_zero, List.getElem_cons_succ, List.setIfInBounds_toArray, List.set_cons_zero, List.set_cons_succ])
              refine wpAnyH_take (i := 12) (v := ?_) rfl (by kernel_rfl) (by kernel_rfl) (by kernel_rfl) (fun _ _ _ h => h) (Or.inl ⟨by rfl, ?_⟩) (by assumption) ?_
              rotate_left
              focus ((intro wS hSw; (try dsimp only at hSw); go_simp); (try (with_reducible rfl)))
              simp only [Act.put, List.getElem_toArray, List.getElem_cons_zero, List.getElem_cons_succ, List.setIfInBounds_toArray, List.set_cons_zero, List.set_cons_succ]
              refine wpAnyH_take (i := 13) (v := ?_) rfl (by kernel_rfl) (by kernel_rfl) (by kernel_rfl) (fun _ _ _ h => h) (Or.inl ⟨by rfl, ?_⟩) (by assumption) ?_
              rotate_left
              focus ((intro wS hSw; (try dsimp only at hSw); go_simp); (try (with_reducible rfl)))
              simp only [Act.put, List.getElem_toArray, List.getElem_cons_zero, List.getElem_cons_succ, List.setIfInBounds_toArray, List.set_cons_zero, List.set_cons_succ]
              refine wpAnyH_done (by kernel_rfl) ?_ _
              clear hHeld
              have hNN : IsN so T n := ⟨hnl, HMM.out, .inr (by rw [htn]; exact hs)⟩
              have hBX := Below.onto HE.out HBW1.out
              clear hs HCL HE HK hlast hdl hwl
              have hbB : Below (b10 + 1) W w11 := HBX.out.trans (hBX.mono (by have := HBX.out.size; have := HZW.out; omega))
              have htk := HTK2.out n hNN
              obtain ⟨e1, e2⟩ := htk
              rw [htn] at e1
              have hvx := keepS HVR.out hBX
              have hix := HIR.out.below hBX
              have hlen : ask.length = n + 1 := by rw [e2, List.length_take]; omega
              rw [hlen] at hvx
              obtain ⟨A2, cp2, hf1, _, hr2⟩ := hix.reads
              injection hf1 with hf1 hf2 hf3
              subst hf1
              subst hf3
              obtain ⟨gA, oA, hadA, hgA, hcA0⟩ := hr2 (by omega)
              subst hadA
              have hcA : ∀ i, i < n + 1 → w11.cell? ⟨gA, oA + i, none⟩ = some (.int .i64 (T.getD i 0)) := fun i hi => by
                have h := hcA0 i (by omega)
                rw [h, e2]
                congr 2
                rw [List.getD_eq_getElem?_getD, List.getD_eq_getElem?_getD, List.getElem?_take, if_pos hi]
              have hcX : ∀ i, i < T.length → w11.cell? ⟨gT, oT + i, none⟩ = some (.int .i64 (T.getD i 0)) := fun i hi => (hBX.cell (p := ⟨gT, oT + i, none⟩) hgT).trans (HCT.out i hi)
              have c11 : w11.cell? ⟨b10 + 1, 0, none⟩ = some (.slice (some ⟨gA, oA, none⟩) (n + 1) cv2) := cell_of_row w11 (b10 + 1) 0 _ _ (0, 0) hvx
              have c10 : w11.cell? ⟨b10, 0, none⟩ = some (.func (.func 19) #[] #[.pointer (some ⟨b4, 0, none⟩), .pointer (some ⟨b4 + 1 + 1, 0, none⟩), .pointer (some ⟨b4 + 1, 0, none⟩)]) := cell_of_row w11 b10 0 _ _ (0, 0) (keepS H10.out hBX)
              have ctn := hcX n hnl
              rw [htn] at ctn
              have hq1 : (at' != tn) = false := by rw [e1]; simp
              have hran : -4503599627370496 ≤ at' ∧ at' ≤ 4503599627370496 := by rw [e1, ← htn]; exact HTM.out n hnl
              have HCA := Lib.hid hcA
              have HCX := Lib.hid hcX
              have HBX2 := Lib.hid hBX
              have HH10 := Lib.hid (keepS H10.out hBX)
              have hSO2 := fun z w' (hb : Below w11.heap.size w11 w') hz => HSO.out z w' (hbB.trans (hb.mono (by have := hbB.size; have := HZW.out; omega))) hz
              have HSO2 := Lib.hid hSO2
              obtain ⟨hyat, hsat, hmin⟩ := HFST.out
              have hAC := hSO2 at' w11 (Below.refl _ _) hran
              rw [hsat] at hAC
              have HAC := Lib.hid hAC
              have HMIN := Lib.hid hmin
              have HSA := Lib.hid hsat
              have HBT : Hid (Below w.heap.size w w11) := Below.onto (show Below W0.heap.size W0 w11 from HBWF.out w11 hbB) HB0.out
              clear hNN hBX hbB e1 e2 htn hvx hix hr2 hcA0 hcA hcX hSO2 hAC hsat hmin hlen hgA
              go_wp2_with fail
              go_loop [100] (fun x => ∃ i : Nat, i ≤ n + 1 ∧ x = .int .i64 i) (fun x => n + 1 - (intOf x).toNat)
              case atStart => exact ⟨0, by omega, rfl⟩
              case round =>
                obtain ⟨i, hi, rfl⟩ := hrel
                by_cases hil : i < n + 1
                · have ca := HCA.out i hil
                  have hiT : i < T.length := by omega
                  have cx := HCX.out i hiT
                  generalize T.getD i 0 = xi at *
                  clear c11 c10 ctn hq1
                  go_wp2_with fail
                  go_round
                  case rel => exact ⟨i + 1, by omega, by go_num⟩
                  case measure => simp [intOf]; omega
                · have hin : i = n + 1 := by omega
                  subst hin
                  clear c11 ctn hq1 hi hil
                  go_wp2_with fail
                  refine HAC.out.mono ?_
                  rintro e w12 ⟨rfl, hb12⟩
                  have HB12 := Lib.hid hb12
                  have c10' : w12.cell? ⟨b10, 0, none⟩ = some (.func (.func 19) #[] #[.pointer (some ⟨b4, 0, none⟩), .pointer (some ⟨b4 + 1 + 1, 0, none⟩), .pointer (some ⟨b4 + 1, 0, none⟩)]) := cell_of_row w12 b10 0 _ _ (0, 0) (keepS HH10.out hb12)
                  have hA2 := HSO2.out at' w12 hb12 hran
                  rw [HSA.out] at hA2
                  have HA2 := Lib.hid hA2
                  clear hb12 hA2 c10
                  by_cases hd : 200 < at' - y
                  · have hdd := decide_eq_true hd
                    go_wp2_with fail
                    refine HA2.out.mono ?_
                    rintro e w13 ⟨rfl, hb13⟩
                    have HB13 := Lib.hid (Below.onto hb13 HB12.out)
                    clear hb13 c10'
                    go_wp2_with fail
                    go_ret
                    exact ⟨rfl, Below.on HB13.out HBT.out HBT.out.size⟩
                  · have hdd := decide_eq_false hd
                    go_wp2_with fail
                    clear c10'
                    go_loopw [19] (fun x wz => ∃ z : Int, x = .int .i64 z ∧ y ≤ z ∧ z ≤ at' ∧ Hid (Below w11.heap.size w11 wz)) (fun x _ => (at' - intOf x).toNat)
                    case atStart => exact ⟨y, rfl, Int.le_refl _, hyat, HB12⟩
                    case round =>
                      obtain ⟨z, rfl, hz1, hz2, hJ⟩ := hrel
                      by_cases hza : z < at'
                      · have hzf : so z = false := by
                          cases hs' : so z with
                          | false => rfl
                          | true => have := HMIN.out z hz1 hs'; omega
                        have hcz := HSO2.out z wr hJ.out (by omega)
                        rw [hzf] at hcz
                        have HCZ := Lib.hid hcz
                        have c10z : wr.cell? ⟨b10, 0, none⟩ = some (.func (.func 19) #[] #[.pointer (some ⟨b4, 0, none⟩), .pointer (some ⟨b4 + 1 + 1, 0, none⟩), .pointer (some ⟨b4 + 1, 0, none⟩)]) := cell_of_row wr b10 0 _ _ (0, 0) (keepS HH10.out hJ.out)
                        clear hcz hzf
                        go_wp2_with fail
                        refine HCZ.out.mono ?_
                        rintro e w14 ⟨rfl, hb14⟩
                        have HB14 := Lib.hid (Below.onto hb14 hJ.out)
                        clear hb14 c10z
                        go_wp2_with fail
                        go_roundw
                        case rel => exact ⟨z + 1, rfl, by omega, by omega, HB14⟩
                        case measure => simp [intOf]; omega
                      · go_wp2_with fail
                        go_ret
                        exact ⟨rfl, Below.on hJ.out HBT.out HBT.out.size⟩
            | false =>
              rw [hs] at hcl
              have HCL := Lib.hid hcl
              clear hcl
              go_wp2_with fail
              refine wp_region_held_drew (S := (fun w' => Below wr.heap.size wr w' ∧ w'.cell? ⟨b10, 0, none⟩ = some (.func (.func 19) #[] #[.pointer (some ⟨b4, 0, none⟩), .pointer (some ⟨b4 + 1 + 1, 0, none⟩), .pointer (some ⟨b4 + 1, 0, none⟩)]) ∧ w'.cell? ⟨gT, oT + n, none⟩ = some (.int .i64 tn))) (by kernel_rfl) (HK.out _ ((Below.refl _ _).drew)) (fun hHeld => ?_)
              refine wpAnyH_take (i := 0) (v := ?_) rfl (by kernel_rfl) (by kernel_rfl) (by kernel_rfl) (fun _ _ _ h => h) (Or.inl ⟨by rfl, ?_⟩) (by assumption) ?_
              rotate_left
              focus ((intro wS hSw; (try dsimp only at hSw); go_simp); (try (with_reducible rfl)))
              simp only [Act.put, List.getElem_toArray, List.getElem_cons_zero, List.getElem_cons_succ, List.setIfInBounds_toArray, List.set_cons_zero, List.set_cons_succ]
              refine wpAnyH_take (i := 1) (v := ?_) rfl (by kernel_rfl) (by kernel_rfl) (by kernel_rfl) (fun _ _ _ h => h) (Or.inl ⟨by rfl, ?_⟩) (by assumption) ?_
              rotate_left
              focus ((intro wS hSw; (try dsimp only at hSw); go_simp); (try (with_reducible rfl)))
              simp only [Act.put, List.getElem_toArray, List.getElem_cons_zero, List.getElem_cons_succ, List.setIfInBounds_toArray, List.set_cons_zero, List.set_cons_succ]
              refine wpAnyH_take (i := 2) (v := ?_) rfl (by kernel_rfl) (by kernel_rfl) (by kernel_rfl) (fun _ _ _ h => h) (Or.inl ⟨by rfl, ?_⟩) (by assumption) ?_
              rotate_left
              focus ((intro wS hSw; (try dsimp only at hSw); go_simp); (try (with_reducible rfl)))
              simp only [Act.put, List.getElem_toArray, List.getElem_cons_zero, List.getElem_cons_succ, List.setIfInBounds_toArray, List.set_cons_zero, List.set_cons_succ]
              refine wpAnyH_take (i := 3) (v := ?_) rfl (by kernel_rfl) (by kernel_rfl) (by kernel_rfl) (fun _ _ _ h => h) (Or.inl ⟨by rfl, ?_⟩) (by assumption) ?_
              rotate_left
              focus ((intro wS hSw; (try dsimp only at hSw); go_simp); (try (with_reducible rfl)))
              simp only [Act.put, List.getElem_toArray, List.getElem_cons_zero, List.getElem_cons_succ, List.setIfInBounds_toArray, List.set_cons_zero, List.set_cons_succ]
              refine wpAnyH_take (i := 4) (v := ?_) rfl (by kernel_rfl) (by kernel_rfl) (by kernel_rfl) (fun _ _ _ h => h) (Or.inl ⟨by rfl, ?_⟩) (by assumption) ?_
              rotate_left
              focus ((intro wS hSw; (try dsimp only at hSw); go_simp); (try (with_reducible rfl)))
              simp only [Act.put, List.getElem_toArray, List.getElem_cons_zero, List.getElem_cons_succ, List.setIfInBounds_toArray, List.set_cons_zero, List.set_cons_succ]
              refine wpAnyH_take (i := 5) (v := ?_) rfl (by kernel_rfl) (by kernel_rfl) (by kernel_rfl) (fun _ _ _ h => h) (Or.inl ⟨by rfl, ?_⟩) (by assumption) ?_
              rotate_left
              focus ((intro wS hSw; (try dsimp only at hSw); go_simp); (try (with_reducible rfl)))
              simp only [Act.put, List.getElem_toArray, List.getElem_cons_zero, List.getElem_cons_succ, List.setIfInBounds_toArray, List.set_cons_zero, List.set_cons_succ]
              refine wpAnyH_take (i := 6) (v := ?_) rfl (by kernel_rfl) (by kernel_rfl) (by kernel_rfl) (fun _ _ _ h => h) (Or.inl ⟨by rfl, ?_⟩) (by assumption) ?_
              rotate_left
              focus ((intro wS hSw; (try dsimp only at hSw); go_simp); (try (with_reducible rfl)))
              simp only [Act.put, List.getElem_toArray, List.getElem_cons_zero, List.getElem_cons_succ, List.setIfInBounds_toArray, List.set_cons_zero, List.set_cons_succ]
              refine wpAnyH_take (i := 7) (v := ?_) rfl (by kernel_rfl) (by kernel_rfl) (by kernel_rfl) (fun _ _ _ h => h) (Or.inl ⟨by rfl, ?_⟩) (by assumption) ?_
              rotate_left
              focus ((intro wS hSw; (try dsimp only at hSw); go_simp); (try (with_reducible rfl)))
              simp only [Act.put, List.getElem_toArray, List.getElem_cons_zero, List.getElem_cons_succ, List.setIfInBounds_toArray, List.set_cons_zero, List.set_cons_succ]
              refine wpAnyH_take (i := 8) (v := ?_) rfl (by kernel_rfl) (by kernel_rfl) (by kernel_rfl) (fun _ _ _ h => h) (Or.inl ⟨by rfl, ?_⟩) (by assumption) ?_
              rotate_left
              focus ((intro wS hSw; (try dsimp only at hSw); go_simp); (try (with_reducible rfl)))
              simp only [Act.put, List.getElem_toArray, List.getElem_cons_zero, List.getElem_cons_succ, List.setIfInBounds_toArray, List.set_cons_zero, List.set_cons_succ]
              refine wpAnyH_take (i := 9) (v := ?_) rfl (by kernel_rfl) (by kernel_rfl) (by kernel_rfl) (fun _ _ _ h => h) (Or.inl ⟨by rfl, ?_⟩) (by assumption) ?_
              rotate_left
              focus ((intro wS hSw; (try dsimp only at hSw); go_simp); (try (with_reducible rfl)))
              simp only [Act.put, List.getElem_toArray, List.getElem_cons_zero, List.getElem_cons_succ, List.setIfInBounds_toArray, List.set_cons_zero, List.set_cons_succ]
              refine wpAnyH_take (i := 10) (v := ?_) rfl (by kernel_rfl) (by kernel_rfl) (by kernel_rfl) (fun _ _ _ h => h) (Or.inl ⟨by rfl, ?_⟩) (by assumption) ?_
              rotate_left
              focus ((intro wS hSw; (try dsimp only at hSw); go_simp); (try (with_reducible rfl)))
              simp only [Act.put, List.getElem_toArray, List.getElem_cons_zero, List.getElem_cons_succ, List.setIfInBounds_toArray, List.set_cons_zero, List.set_cons_succ]
              refine wpAnyH_ready (rs := [11]) (by kernel_rfl) (by simp) ?_
              refine AllReadyH.cons rfl (fun K hK => ?_) AllReadyH.nil
              go_simp
              refine (HCL.out _ ((Below.refl _ _).drew)).mono ?_
              rintro e w11 ⟨rfl, hbx⟩
              have HE := Lib.hid (show Below wr.heap.size wr w11 from Below.drewL hbx)
              clear hbx
              refine hK.out _ _ (HK.out _ HE.out) (fun hHeld => ?_)
              clear hK K
              (try simp only [Act.put, List.getElem_toArray, List.getElem_cons_zero, List.getElem_cons_succ, List.setIfInBounds_toArray, List.set_cons_zero, List.set_cons_succ])
              refine wpAnyH_take (i := 12) (v := ?_) rfl (by kernel_rfl) (by kernel_rfl) (by kernel_rfl) (fun _ _ _ h => h) (Or.inl ⟨by rfl, ?_⟩) (by assumption) ?_
              rotate_left
              focus ((intro wS hSw; (try dsimp only at hSw); go_simp); (try (with_reducible rfl)))
              simp only [Act.put, List.getElem_toArray, List.getElem_cons_zero, List.getElem_cons_succ, List.setIfInBounds_toArray, List.set_cons_zero, List.set_cons_succ]
              refine wpAnyH_take (i := 13) (v := ?_) rfl (by kernel_rfl) (by kernel_rfl) (by kernel_rfl) (fun _ _ _ h => h) (Or.inl ⟨by rfl, ?_⟩) (by assumption) ?_
              rotate_left
              focus ((intro wS hSw; (try dsimp only at hSw); go_simp); (try (with_reducible rfl)))
              simp only [Act.put, List.getElem_toArray, List.getElem_cons_zero, List.getElem_cons_succ, List.setIfInBounds_toArray, List.set_cons_zero, List.set_cons_succ]
              refine wpAnyH_done (by kernel_rfl) ?_ _
              clear hHeld
              clear hwl hdl
              go_wp2_with fail
              go_roundw
              case rel => exact ⟨n + 1, by omega, by go_num, Lib.hid ⟨fun m hm => by
                by_cases e : m = n
                · rw [e, htn]; exact hs
                · exact HMM.out m (by omega), Below.onto HE.out HBW1.out⟩⟩
              case measure => simp [intOf]; omega
          · have hdl := decide_eq_false hlast
            go_wp2_with fail
            refine wp_region_held_drew (S := (fun w' => Below wr.heap.size wr w' ∧ w'.cell? ⟨b10, 0, none⟩ = some (.func (.func 19) #[] #[.pointer (some ⟨b4, 0, none⟩), .pointer (some ⟨b4 + 1 + 1, 0, none⟩), .pointer (some ⟨b4 + 1, 0, none⟩)]) ∧ w'.cell? ⟨gT, oT + n, none⟩ = some (.int .i64 tn))) (by kernel_rfl) (HK.out _ ((Below.refl _ _).drew)) (fun hHeld => ?_)
            refine wpAnyH_take (i := 0) (v := ?_) rfl (by kernel_rfl) (by kernel_rfl) (by kernel_rfl) (fun _ _ _ h => h) (Or.inl ⟨by rfl, ?_⟩) (by assumption) ?_
            rotate_left
            focus ((intro wS hSw; (try dsimp only at hSw); go_simp); (try (with_reducible rfl)))
            simp only [Act.put, List.getElem_toArray, List.getElem_cons_zero, List.getElem_cons_succ, List.setIfInBounds_toArray, List.set_cons_zero, List.set_cons_succ]
            refine wpAnyH_take (i := 1) (v := ?_) rfl (by kernel_rfl) (by kernel_rfl) (by kernel_rfl) (fun _ _ _ h => h) (Or.inl ⟨by rfl, ?_⟩) (by assumption) ?_
            rotate_left
            focus ((intro wS hSw; (try dsimp only at hSw); go_simp); (try (with_reducible rfl)))
            simp only [Act.put, List.getElem_toArray, List.getElem_cons_zero, List.getElem_cons_succ, List.setIfInBounds_toArray, List.set_cons_zero, List.set_cons_succ]
            refine wpAnyH_take (i := 2) (v := ?_) rfl (by kernel_rfl) (by kernel_rfl) (by kernel_rfl) (fun _ _ _ h => h) (Or.inl ⟨by rfl, ?_⟩) (by assumption) ?_
            rotate_left
            focus ((intro wS hSw; (try dsimp only at hSw); go_simp); (try (with_reducible rfl)))
            simp only [Act.put, List.getElem_toArray, List.getElem_cons_zero, List.getElem_cons_succ, List.setIfInBounds_toArray, List.set_cons_zero, List.set_cons_succ]
            refine wpAnyH_take (i := 3) (v := ?_) rfl (by kernel_rfl) (by kernel_rfl) (by kernel_rfl) (fun _ _ _ h => h) (Or.inl ⟨by rfl, ?_⟩) (by assumption) ?_
            rotate_left
            focus ((intro wS hSw; (try dsimp only at hSw); go_simp); (try (with_reducible rfl)))
            simp only [Act.put, List.getElem_toArray, List.getElem_cons_zero, List.getElem_cons_succ, List.setIfInBounds_toArray, List.set_cons_zero, List.set_cons_succ]
            refine wpAnyH_take (i := 4) (v := ?_) rfl (by kernel_rfl) (by kernel_rfl) (by kernel_rfl) (fun _ _ _ h => h) (Or.inl ⟨by rfl, ?_⟩) (by assumption) ?_
            rotate_left
            focus ((intro wS hSw; (try dsimp only at hSw); go_simp); (try (with_reducible rfl)))
            simp only [Act.put, List.getElem_toArray, List.getElem_cons_zero, List.getElem_cons_succ, List.setIfInBounds_toArray, List.set_cons_zero, List.set_cons_succ]
            refine wpAnyH_take (i := 5) (v := ?_) rfl (by kernel_rfl) (by kernel_rfl) (by kernel_rfl) (fun _ _ _ h => h) (Or.inl ⟨by rfl, ?_⟩) (by assumption) ?_
            rotate_left
            focus ((intro wS hSw; (try dsimp only at hSw); go_simp); (try (with_reducible rfl)))
            simp only [Act.put, List.getElem_toArray, List.getElem_cons_zero, List.getElem_cons_succ, List.setIfInBounds_toArray, List.set_cons_zero, List.set_cons_succ]
            refine wpAnyH_take (i := 6) (v := undef) rfl (by kernel_rfl) (by kernel_rfl) (by kernel_rfl) (fun _ _ _ h => h) (Or.inr ⟨by rfl, rfl⟩) (by assumption) ?_
            simp only [Act.put, List.getElem_toArray, List.getElem_cons_zero, List.getElem_cons_succ, List.setIfInBounds_toArray, List.set_cons_zero, List.set_cons_succ]
            refine wpAnyH_take (i := 7) (v := undef) rfl (by kernel_rfl) (by kernel_rfl) (by kernel_rfl) (fun _ _ _ h => h) (Or.inr ⟨by rfl, rfl⟩) (by assumption) ?_
            simp only [Act.put, List.getElem_toArray, List.getElem_cons_zero, List.getElem_cons_succ, List.setIfInBounds_toArray, List.set_cons_zero, List.set_cons_succ]
            refine wpAnyH_take (i := 8) (v := undef) rfl (by kernel_rfl) (by kernel_rfl) (by kernel_rfl) (fun _ _ _ h => h) (Or.inr ⟨by rfl, rfl⟩) (by assumption) ?_
            simp only [Act.put, List.getElem_toArray, List.getElem_cons_zero, List.getElem_cons_succ, List.setIfInBounds_toArray, List.set_cons_zero, List.set_cons_succ]
            refine wpAnyH_take (i := 9) (v := undef) rfl (by kernel_rfl) (by kernel_rfl) (by kernel_rfl) (fun _ _ _ h => h) (Or.inr ⟨by rfl, rfl⟩) (by assumption) ?_
            simp only [Act.put, List.getElem_toArray, List.getElem_cons_zero, List.getElem_cons_succ, List.setIfInBounds_toArray, List.set_cons_zero, List.set_cons_succ]
            refine wpAnyH_take (i := 10) (v := undef) rfl (by kernel_rfl) (by kernel_rfl) (by kernel_rfl) (fun _ _ _ h => h) (Or.inr ⟨by rfl, rfl⟩) (by assumption) ?_
            simp only [Act.put, List.getElem_toArray, List.getElem_cons_zero, List.getElem_cons_succ, List.setIfInBounds_toArray, List.set_cons_zero, List.set_cons_succ]
            refine wpAnyH_take (i := 11) (v := undef) rfl (by kernel_rfl) (by kernel_rfl) (by kernel_rfl) (fun _ _ _ h => h) (Or.inr ⟨by rfl, rfl⟩) (by assumption) ?_
            simp only [Act.put, List.getElem_toArray, List.getElem_cons_zero, List.getElem_cons_succ, List.setIfInBounds_toArray, List.set_cons_zero, List.set_cons_succ]
            refine wpAnyH_take (i := 12) (v := undef) rfl (by kernel_rfl) (by kernel_rfl) (by kernel_rfl) (fun _ _ _ h => h) (Or.inr ⟨by rfl, rfl⟩) (by assumption) ?_
            simp only [Act.put, List.getElem_toArray, List.getElem_cons_zero, List.getElem_cons_succ, List.setIfInBounds_toArray, List.set_cons_zero, List.set_cons_succ]
            refine wpAnyH_take (i := 13) (v := ?_) rfl (by kernel_rfl) (by kernel_rfl) (by kernel_rfl) (fun _ _ _ h => h) (Or.inl ⟨by rfl, ?_⟩) (by assumption) ?_
            rotate_left
            focus ((intro wS hSw; (try dsimp only at hSw); go_simp); (try (with_reducible rfl)))
            simp only [Act.put, List.getElem_toArray, List.getElem_cons_zero, List.getElem_cons_succ, List.setIfInBounds_toArray, List.set_cons_zero, List.set_cons_succ]
            refine wpAnyH_done (by kernel_rfl) ?_ _
            clear hHeld
            have hNN : IsN so T n := ⟨hnl, HMM.out, .inl (by omega)⟩
            have hBX0 : Below w10.heap.size w10 wr.drew := HBW1.out.drew
            obtain ⟨w11, hw11⟩ : ∃ w, wr.drew = w := ⟨_, rfl⟩
            rw [hw11] at hBX0 ⊢
            have hBX := hBX0
            clear hw11 hBX0 HK hlast hdl hwl hcl
            have hbB : Below (b10 + 1) W w11 := HBX.out.trans (hBX.mono (by have := HBX.out.size; have := HZW.out; omega))
            have htk := HTK2.out n hNN
            obtain ⟨e1, e2⟩ := htk
            rw [htn] at e1
            have hvx := keepS HVR.out hBX
            have hix := HIR.out.below hBX
            have hlen : ask.length = n + 1 := by rw [e2, List.length_take]; omega
            rw [hlen] at hvx
            obtain ⟨A2, cp2, hf1, _, hr2⟩ := hix.reads
            injection hf1 with hf1 hf2 hf3
            subst hf1
            subst hf3
            obtain ⟨gA, oA, hadA, hgA, hcA0⟩ := hr2 (by omega)
            subst hadA
            have hcA : ∀ i, i < n + 1 → w11.cell? ⟨gA, oA + i, none⟩ = some (.int .i64 (T.getD i 0)) := fun i hi => by
              have h := hcA0 i (by omega)
              rw [h, e2]
              congr 2
              rw [List.getD_eq_getElem?_getD, List.getD_eq_getElem?_getD, List.getElem?_take, if_pos hi]
            have hcX : ∀ i, i < T.length → w11.cell? ⟨gT, oT + i, none⟩ = some (.int .i64 (T.getD i 0)) := fun i hi => (hBX.cell (p := ⟨gT, oT + i, none⟩) hgT).trans (HCT.out i hi)
            have c11 : w11.cell? ⟨b10 + 1, 0, none⟩ = some (.slice (some ⟨gA, oA, none⟩) (n + 1) cv2) := cell_of_row w11 (b10 + 1) 0 _ _ (0, 0) hvx
            have c10 : w11.cell? ⟨b10, 0, none⟩ = some (.func (.func 19) #[] #[.pointer (some ⟨b4, 0, none⟩), .pointer (some ⟨b4 + 1 + 1, 0, none⟩), .pointer (some ⟨b4 + 1, 0, none⟩)]) := cell_of_row w11 b10 0 _ _ (0, 0) (keepS H10.out hBX)
            have ctn := hcX n hnl
            rw [htn] at ctn
            have hq1 : (at' != tn) = false := by rw [e1]; simp
            have hran : -4503599627370496 ≤ at' ∧ at' ≤ 4503599627370496 := by rw [e1, ← htn]; exact HTM.out n hnl
            have HCA := Lib.hid hcA
            have HCX := Lib.hid hcX
            have HBX2 := Lib.hid hBX
            have HH10 := Lib.hid (keepS H10.out hBX)
            have hSO2 := fun z w' (hb : Below w11.heap.size w11 w') hz => HSO.out z w' (hbB.trans (hb.mono (by have := hbB.size; have := HZW.out; omega))) hz
            have HSO2 := Lib.hid hSO2
            obtain ⟨hyat, hsat, hmin⟩ := HFST.out
            have hAC := hSO2 at' w11 (Below.refl _ _) hran
            rw [hsat] at hAC
            have HAC := Lib.hid hAC
            have HMIN := Lib.hid hmin
            have HSA := Lib.hid hsat
            have HBT : Hid (Below w.heap.size w w11) := Below.onto (show Below W0.heap.size W0 w11 from HBWF.out w11 hbB) HB0.out
            clear hNN hBX hbB e1 e2 htn hvx hix hr2 hcA0 hcA hcX hSO2 hAC hsat hmin hlen hgA
            go_wp2_with fail
            go_loop [100] (fun x => ∃ i : Nat, i ≤ n + 1 ∧ x = .int .i64 i) (fun x => n + 1 - (intOf x).toNat)
            case atStart => exact ⟨0, by omega, rfl⟩
            case round =>
              obtain ⟨i, hi, rfl⟩ := hrel
              by_cases hil : i < n + 1
              · have ca := HCA.out i hil
                have hiT : i < T.length := by omega
                have cx := HCX.out i hiT
                generalize T.getD i 0 = xi at *
                clear c11 c10 ctn hq1
                go_wp2_with fail
                go_round
                case rel => exact ⟨i + 1, by omega, by go_num⟩
                case measure => simp [intOf]; omega
              · have hin : i = n + 1 := by omega
                subst hin
                clear c11 ctn hq1 hi hil
                go_wp2_with fail
                refine HAC.out.mono ?_
                rintro e w12 ⟨rfl, hb12⟩
                have HB12 := Lib.hid hb12
                have c10' : w12.cell? ⟨b10, 0, none⟩ = some (.func (.func 19) #[] #[.pointer (some ⟨b4, 0, none⟩), .pointer (some ⟨b4 + 1 + 1, 0, none⟩), .pointer (some ⟨b4 + 1, 0, none⟩)]) := cell_of_row w12 b10 0 _ _ (0, 0) (keepS HH10.out hb12)
                have hA2 := HSO2.out at' w12 hb12 hran
                rw [HSA.out] at hA2
                have HA2 := Lib.hid hA2
                clear hb12 hA2 c10
                by_cases hd : 200 < at' - y
                · have hdd := decide_eq_true hd
                  go_wp2_with fail
                  refine HA2.out.mono ?_
                  rintro e w13 ⟨rfl, hb13⟩
                  have HB13 := Lib.hid (Below.onto hb13 HB12.out)
                  clear hb13 c10'
                  go_wp2_with fail
                  go_ret
                  exact ⟨rfl, Below.on HB13.out HBT.out HBT.out.size⟩
                · have hdd := decide_eq_false hd
                  go_wp2_with fail
                  clear c10'
                  go_loopw [19] (fun x wz => ∃ z : Int, x = .int .i64 z ∧ y ≤ z ∧ z ≤ at' ∧ Hid (Below w11.heap.size w11 wz)) (fun x _ => (at' - intOf x).toNat)
                  case atStart => exact ⟨y, rfl, Int.le_refl _, hyat, HB12⟩
                  case round =>
                    obtain ⟨z, rfl, hz1, hz2, hJ⟩ := hrel
                    by_cases hza : z < at'
                    · have hzf : so z = false := by
                        cases hs' : so z with
                        | false => rfl
                        | true => have := HMIN.out z hz1 hs'; omega
                      have hcz := HSO2.out z wr hJ.out (by omega)
                      rw [hzf] at hcz
                      have HCZ := Lib.hid hcz
                      have c10z : wr.cell? ⟨b10, 0, none⟩ = some (.func (.func 19) #[] #[.pointer (some ⟨b4, 0, none⟩), .pointer (some ⟨b4 + 1 + 1, 0, none⟩), .pointer (some ⟨b4 + 1, 0, none⟩)]) := cell_of_row wr b10 0 _ _ (0, 0) (keepS HH10.out hJ.out)
                      clear hcz hzf
                      go_wp2_with fail
                      refine HCZ.out.mono ?_
                      rintro e w14 ⟨rfl, hb14⟩
                      have HB14 := Lib.hid (Below.onto hb14 hJ.out)
                      clear hb14 c10z
                      go_wp2_with fail
                      go_roundw
                      case rel => exact ⟨z + 1, rfl, by omega, by omega, HB14⟩
                      case measure => simp [intOf]; omega
                    · go_wp2_with fail
                      go_ret
                      exact ⟨rfl, Below.on hJ.out HBT.out HBT.out.size⟩
end Go.Proofs.Ytecojcdmigmnhaa
