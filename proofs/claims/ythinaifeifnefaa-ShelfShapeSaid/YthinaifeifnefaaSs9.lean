/- The law ShelfShape. -/
import Derived.Test.YthinaifeifnefaaSp9
import Derived.Deep.RegionLaw
import Derived.Deep.RegionHeld3
namespace Go.Proofs.Ythinaifeifnefaa
set_option linter.unusedSimpArgs false
set_option linter.unusedVariables false
open Go.RowKit
set_option maxRecDepth 20000 in
set_option maxHeartbeats 8000000 in
theorem shelfShape_any (L : List Fo) (v : Value) (w : World) (h : IsFos w v L) (hn : L.length ≤ maxLen) : Calls Try.prog 9 #[v] w fun e w' => e = .returned (.bool true) ∧ Below w.heap.size w w' := by
  obtain ⟨A, cap0, rfl, hx1, hx2⟩ := id h
  clear hx1 hx2
  have hfw := fun w h => few_any (.slice A L.length cap0) L 40 w h hn
  cases hq : fewB L 40 with
  | false =>
    rw [hq] at hfw
    have HFW := Lib.hid hfw
    have HH := Lib.hid h
    clear hfw h hn hq
    go_enter Try.func9, Try.ntmps9
    go_wp2_with fail
    refine (speaks_any _).mono ?_
    rintro e w1 ⟨rfl, hb1⟩
    have HB1 := Lib.hid hb1
    clear hb1
    go_wp2_with fail
    refine (HFW.out _ (HH.out.below HB1.out (Nat.le_refl _))).mono ?_
    rintro e w2 ⟨rfl, hb2⟩
    have HB2 := Lib.hid (Below.onto hb2 HB1.out)
    clear hb2
    go_wp2_with fail
    refine (speaks_any _).mono ?_
    rintro e w3 ⟨rfl, hb3⟩
    have HB3 := Lib.hid (Below.onto hb3 HB2.out)
    clear hb3
    go_wp2_with fail
    go_ret
    exact ⟨rfl, HB3.out⟩
  | true =>
    rw [hq] at hfw
    obtain ⟨hsm, hl40⟩ := few_small hq
    have hbg := fun w h => begin_any (.slice A L.length cap0) L w h (by omega) hsm
    have hok := shape_ok hsm
    unfold BegPost at hbg
    obtain ⟨F, hF⟩ : ∃ F, full (shelves L) = F := ⟨_, rfl⟩
    rw [hF] at hbg hok
    have h0 := hok.pos
    have hFl : F.length ≤ 2 * L.length + 1 := hok.len
    have hsh := fun base lp w h => shelves_any F base lp w h (by omega) h0
    have haf := fun y base lp w h => after_any F y base lp w h hok.asc (by omega) h0
    unfold ShelvesPost at hsh
    unfold AftPost at haf
    have HFW := Lib.hid hfw
    have HH := Lib.hid h
    have HBG := Lib.hid hbg
    have HSH := Lib.hid hsh
    have HAF := Lib.hid haf
    have HOK := Lib.hid hok
    clear hfw h hn hq hsm hbg hsh haf hok hF
    go_enter Try.func9, Try.ntmps9
    go_wp2_with fail
    refine (speaks_any _).mono ?_
    rintro e w1 ⟨rfl, hb1⟩
    have HH1 := Lib.hid (HH.out.below hb1 (Nat.le_refl _))
    have HB1 := Lib.hid hb1
    clear hb1
    go_wp2_with fail
    refine (HFW.out _ HH1.out).mono ?_
    rintro e w2 ⟨rfl, hb2⟩
    have HH2 := Lib.hid (HH1.out.below hb2 (Nat.le_refl _))
    have HB2 := Lib.hid (Below.onto hb2 HB1.out)
    clear hb2
    go_wp2_with fail
    refine (HBG.out _ HH2.out).mono ?_
    rintro e w3 ⟨lp, rfl, hl3, hb3⟩
    have HL3 := Lib.hid hl3
    have HB3 := Lib.hid (Below.onto hb3 HB2.out)
    have HZ3 := Lib.hid hb3.size
    clear hb3 hl3
    go_wp2_with fail
    refine (HSH.out _ lp w3 HL3.out).mono ?_
    rintro e w4 ⟨v4, rfl, ho4, hb4⟩
    obtain ⟨g, cap, rfl, hcp, hg, hgl⟩ := own_form ho4 h0 rfl
    have HSI : Hid (SInv F w2.heap.size lp g cap w w4) := Lib.hid ⟨HL3.out.below hb4 (Nat.le_refl _), own_mono ho4 HZ3.out, Below.onto hb4 HB3.out⟩
    have HSC := Lib.hid (shs_of_own ho4)
    clear hb4 ho4
    obtain ⟨s1, _, _⟩ := HSC.out.cells (k := 0) h0
    rw [HOK.out.first] at s1
    simp only [Nat.zero_mul, Nat.add_zero, far] at s1
    have hw1 : IntKind.i64.wrap (2 * (L.length : Int)) = 2 * (L.length : Int) := by rw [IntKind.wrap_i64]; omega
    have hw2 : IntKind.i64.wrap (2 * (L.length : Int) + 1) = 2 * (L.length : Int) + 1 := by rw [IntKind.wrap_i64]; omega
    have hd1 : decide (2 * (L.length : Int) + 1 < (F.length : Int)) = false := decide_eq_false (by omega)
    have hd2 : ((F.length : Int) == 0) = false := by rw [beq_eq_false_iff_ne]; omega
    go_wp2_with fail
    clear hw1 hw2 hd1 hd2 s1 HSC
    go_loopw [5] (fun x wr => ∃ i : Nat, 1 ≤ i ∧ i ≤ F.length ∧ x = .int .i64 i ∧ Hid (SInv F w2.heap.size lp g cap w wr)) (fun x _ => F.length - (intOf x).toNat)
    case atStart => exact ⟨1, by omega, by omega, by simp, HSI⟩
    case round =>
      obtain ⟨i, hi1, hi, rfl, hI⟩ := hrel
      have hSC := Lib.hid (shs_of_own hI.out.2.1)
      by_cases hlt : i < F.length
      · obtain ⟨k, hk⟩ : ∃ k, i = k + 1 := ⟨i - 1, by omega⟩
        have hkl : k < F.length := by omega
        have hst := HOK.out.step k (by omega)
        have hnx := HOK.out.next k (by omega)
        rw [← hk] at hst hnx
        obtain ⟨a0, a1, a2⟩ := hSC.out.cells hkl
        obtain ⟨b0, b1, b2⟩ := hSC.out.cells hlt
        simp only [Nat.zero_add] at a0 a1 a2 b0 b1 b2
        have haf := fun w h => HAF.out (shAt F k).t w2.heap.size lp w h
        rw [hnx, if_pos hlt] at haf
        have HAFk := Lib.hid haf
        have hgt : decide ((shAt F i).t ≤ (shAt F k).t) = false := decide_eq_false (by omega)
        have hor : ((shAt F k).l == (shAt F i).l) = false ∨ (((shAt F k).l == (shAt F i).l) = true ∧ ((shAt F k).r == (shAt F i).r) = false) := by
          by_cases e : (shAt F k).l = (shAt F i).l
          · right
            rcases hst.2 with q | q
            · exact absurd e q
            · exact ⟨by simp [e], by simp [q]⟩
          · left; simp [e]
        have hw : IntKind.i64.wrap ((i : Int) - 1) = (k : Int) := by rw [IntKind.wrap_i64]; omega
        have hgl2 : g < wr.heap.size := by obtain ⟨g', cap', e, _, _, h'⟩ := own_form hI.out.2.1 h0 rfl; simp at e; omega
        have HK := Lib.hid hk
        clear hk hst hnx haf
        generalize (shAt F k).t = kt at *
        generalize (shAt F k).l = kl at *
        generalize (shAt F k).r = kr at *
        generalize (shAt F i).t = it at *
        generalize (shAt F i).l = il at *
        generalize (shAt F i).r = ir at *
        go_wp2_with fail
        have HLI := Lib.hid hI.out.1
        have HSG : Hid (∀ W, Below wr.heap.size wr W → (W.cell? ⟨g, k * 3, none⟩ = some (.int .i64 kt) ∧ W.cell? ⟨g, k * 3 + 1, none⟩ = some (.int .i64 kl) ∧ W.cell? ⟨g, k * 3 + 2, none⟩ = some (.int .i64 kr) ∧ W.cell? ⟨g, i * 3, none⟩ = some (.int .i64 it) ∧ W.cell? ⟨g, i * 3 + 1, none⟩ = some (.int .i64 il) ∧ W.cell? ⟨g, i * 3 + 2, none⟩ = some (.int .i64 ir))) := Lib.hid fun W hW =>
          ⟨(hW.cell (p := ⟨g, _, none⟩) hgl2).trans a0, (hW.cell (p := ⟨g, _, none⟩) hgl2).trans a1, (hW.cell (p := ⟨g, _, none⟩) hgl2).trans a2, (hW.cell (p := ⟨g, _, none⟩) hgl2).trans b0, (hW.cell (p := ⟨g, _, none⟩) hgl2).trans b1, (hW.cell (p := ⟨g, _, none⟩) hgl2).trans b2⟩
        /- GENSHAPE -/
        refine wp_region_held_drew (S := (fun w' => w'.cell? ⟨g, k * 3, none⟩ = some (.int .i64 kt) ∧ w'.cell? ⟨g, k * 3 + 1, none⟩ = some (.int .i64 kl) ∧ w'.cell? ⟨g, k * 3 + 2, none⟩ = some (.int .i64 kr) ∧ w'.cell? ⟨g, i * 3, none⟩ = some (.int .i64 it) ∧ w'.cell? ⟨g, i * 3 + 1, none⟩ = some (.int .i64 il) ∧ w'.cell? ⟨g, i * 3 + 2, none⟩ = some (.int .i64 ir))) (by kernel_rfl) (HSG.out _ (by (repeat (first | exact Below.refl _ _ | (refine Below.alloc ?_ (by first | omega | (simp; done) | (simp; omega)) _) | (refine Below.on (by assumption) ?_ (by first | omega | (simp; done) | (simp; omega))) | (refine Below.grown ?_ (by assumption) (by first | omega | (simp; done) | (simp; omega)) (by intro k hk; cases hk)) | refine Below.drew ?_)))) (fun hHeld => ?_)
        refine wpAnyH_take (i := 0) (v := ?_) rfl (by kernel_rfl) (by kernel_rfl) (by kernel_rfl) (fun _ _ _ h => h) (Or.inl ⟨by rfl, ?_⟩) (by assumption) ?_
        rotate_left
        focus ((intro wS hSw; (try dsimp only at hSw); go_simp); (try (with_reducible rfl)))
        simp only [Act.put, List.getElem_toArray, List.getElem_cons_zero, List.getElem_cons_succ, List.setIfInBounds_toArray, List.set_cons_zero, List.set_cons_succ]
        refine wpAnyH_take (i := 1) (v := ?_) rfl (by kernel_rfl) (by kernel_rfl) (by kernel_rfl) (fun _ _ _ h => h) (Or.inl ⟨by rfl, ?_⟩) (by assumption) ?_
        rotate_left
        focus ((intro wS hSw; (try dsimp only at hSw); go_simp); (try (with_reducible rfl)))
        simp only [Act.put, List.getElem_toArray, List.getElem_cons_zero, List.getElem_cons_succ, List.setIfInBounds_toArray, List.set_cons_zero, List.set_cons_succ]
        refine wpAnyH_take (i := 2) (v := ?_) rfl (by kernel_rfl) (by kernel_rfl) (by kernel_rfl) (fun _ _ _ h => h) (Or.inl ⟨by rfl, ?_⟩) (by assumption) ?_
        rotate_left
        focus ((intro wS hSw; (try dsimp only at hSw); go_simp); (try (with_reducible rfl)))
        simp only [Act.put, List.getElem_toArray, List.getElem_cons_zero, List.getElem_cons_succ, List.setIfInBounds_toArray, List.set_cons_zero, List.set_cons_succ]
        refine wpAnyH_take (i := 3) (v := ?_) rfl (by kernel_rfl) (by kernel_rfl) (by kernel_rfl) (fun _ _ _ h => h) (Or.inl ⟨by rfl, ?_⟩) (by assumption) ?_
        rotate_left
        focus ((intro wS hSw; (try dsimp only at hSw); go_simp); (try (with_reducible rfl)))
        simp only [Act.put, List.getElem_toArray, List.getElem_cons_zero, List.getElem_cons_succ, List.setIfInBounds_toArray, List.set_cons_zero, List.set_cons_succ]
        refine wpAnyH_take (i := 4) (v := ?_) rfl (by kernel_rfl) (by kernel_rfl) (by kernel_rfl) (fun _ _ _ h => h) (Or.inl ⟨by rfl, ?_⟩) (by assumption) ?_
        rotate_left
        focus ((intro wS hSw; (try dsimp only at hSw); go_simp); (try (with_reducible rfl)))
        simp only [Act.put, List.getElem_toArray, List.getElem_cons_zero, List.getElem_cons_succ, List.setIfInBounds_toArray, List.set_cons_zero, List.set_cons_succ]
        refine wpAnyH_take (i := 5) (v := ?_) rfl (by kernel_rfl) (by kernel_rfl) (by kernel_rfl) (fun _ _ _ h => h) (Or.inl ⟨by rfl, ?_⟩) (by assumption) ?_
        rotate_left
        focus ((intro wS hSw; (try dsimp only at hSw); go_simp); (try (with_reducible rfl)))
        simp only [Act.put, List.getElem_toArray, List.getElem_cons_zero, List.getElem_cons_succ, List.setIfInBounds_toArray, List.set_cons_zero, List.set_cons_succ]
        refine wpAnyH_take (i := 6) (v := ?_) rfl (by kernel_rfl) (by kernel_rfl) (by kernel_rfl) (fun _ _ _ h => h) (Or.inl ⟨by rfl, ?_⟩) (by assumption) ?_
        rotate_left
        focus ((intro wS hSw; (try dsimp only at hSw); go_simp); (try (with_reducible rfl)))
        simp only [Act.put, List.getElem_toArray, List.getElem_cons_zero, List.getElem_cons_succ, List.setIfInBounds_toArray, List.set_cons_zero, List.set_cons_succ]
        refine wpAnyH_take (i := 7) (v := ?_) rfl (by kernel_rfl) (by kernel_rfl) (by kernel_rfl) (fun _ _ _ h => h) (Or.inl ⟨by rfl, ?_⟩) (by assumption) ?_
        rotate_left
        focus ((intro wS hSw; (try dsimp only at hSw); go_simp); (try (with_reducible rfl)))
        simp only [Act.put, List.getElem_toArray, List.getElem_cons_zero, List.getElem_cons_succ, List.setIfInBounds_toArray, List.set_cons_zero, List.set_cons_succ]
        refine wpAnyH_take (i := 8) (v := ?_) rfl (by kernel_rfl) (by kernel_rfl) (by kernel_rfl) (fun _ _ _ h => h) (Or.inl ⟨by rfl, ?_⟩) (by assumption) ?_
        rotate_left
        focus ((intro wS hSw; (try dsimp only at hSw); go_simp); (try (with_reducible rfl)))
        simp only [Act.put, List.getElem_toArray, List.getElem_cons_zero, List.getElem_cons_succ, List.setIfInBounds_toArray, List.set_cons_zero, List.set_cons_succ]
        refine wpAnyH_ready (rs := [9, 10]) (by kernel_rfl) (by simp) ?_
        refine AllReadyH.cons rfl (fun K hK => ?_) ?_
        · skip
          go_simp
          refine hK.out _ _ (HSG.out _ (by (repeat (first | exact Below.refl _ _ | (refine Below.alloc ?_ (by first | omega | (simp; done) | (simp; omega)) _) | (refine Below.on (by assumption) ?_ (by first | omega | (simp; done) | (simp; omega))) | (refine Below.grown ?_ (by assumption) (by first | omega | (simp; done) | (simp; omega)) (by intro k hk; cases hk)) | refine Below.drew ?_)))) (fun hHeld => ?_)
          clear hK K
          (try simp only [Act.put, List.getElem_toArray, List.getElem_cons_zero, List.getElem_cons_succ, List.setIfInBounds_toArray, List.set_cons_zero, List.set_cons_succ])
          refine wpAnyH_ready (rs := [10]) (by kernel_rfl) (by simp) ?_
          refine AllReadyH.cons rfl (fun K hK => ?_) AllReadyH.nil
          go_simp
          refine hK.out _ _ (HSG.out _ (by (repeat (first | exact Below.refl _ _ | (refine Below.alloc ?_ (by first | omega | (simp; done) | (simp; omega)) _) | (refine Below.on (by assumption) ?_ (by first | omega | (simp; done) | (simp; omega))) | (refine Below.grown ?_ (by assumption) (by first | omega | (simp; done) | (simp; omega)) (by intro k hk; cases hk)) | refine Below.drew ?_)))) (fun hHeld => ?_)
          clear hK K
          (try simp only [Act.put, List.getElem_toArray, List.getElem_cons_zero, List.getElem_cons_succ, List.setIfInBounds_toArray, List.set_cons_zero, List.set_cons_succ])
          refine wpAnyH_ready (rs := [11]) (by kernel_rfl) (by simp) ?_
          refine AllReadyH.cons rfl (fun K hK => ?_) AllReadyH.nil
          go_simp
          refine hK.out _ _ (HSG.out _ (by (repeat (first | exact Below.refl _ _ | (refine Below.alloc ?_ (by first | omega | (simp; done) | (simp; omega)) _) | (refine Below.on (by assumption) ?_ (by first | omega | (simp; done) | (simp; omega))) | (refine Below.grown ?_ (by assumption) (by first | omega | (simp; done) | (simp; omega)) (by intro k hk; cases hk)) | refine Below.drew ?_)))) (fun hHeld => ?_)
          clear hK K
          (try simp only [Act.put, List.getElem_toArray, List.getElem_cons_zero, List.getElem_cons_succ, List.setIfInBounds_toArray, List.set_cons_zero, List.set_cons_succ])
          refine wpAnyH_ready (rs := [12]) (by kernel_rfl) (by simp) ?_
          refine AllReadyH.cons rfl (fun K hK => ?_) AllReadyH.nil
          go_simp
          refine hK.out _ _ (HSG.out _ (by (repeat (first | exact Below.refl _ _ | (refine Below.alloc ?_ (by first | omega | (simp; done) | (simp; omega)) _) | (refine Below.on (by assumption) ?_ (by first | omega | (simp; done) | (simp; omega))) | (refine Below.grown ?_ (by assumption) (by first | omega | (simp; done) | (simp; omega)) (by intro k hk; cases hk)) | refine Below.drew ?_)))) (fun hHeld => ?_)
          clear hK K
          (try simp only [Act.put, List.getElem_toArray, List.getElem_cons_zero, List.getElem_cons_succ, List.setIfInBounds_toArray, List.set_cons_zero, List.set_cons_succ])
          refine wpAnyH_done (by kernel_rfl) ?_ _
          clear hHeld
          rcases hor with e1 | ⟨e1, e2⟩
          all_goals
            go_wp2_with fail
            refine (HAFk.out _ (HLI.out.below (n := wr.heap.size) (by (repeat (first | exact Below.refl _ _ | (refine Below.alloc ?_ (by first | omega | (simp; done) | (simp; omega)) _) | (refine Below.on (by assumption) ?_ (by first | omega | (simp; done) | (simp; omega))) | (refine Below.grown ?_ (by assumption) (by first | omega | (simp; done) | (simp; omega)) (by intro k hk; cases hk)) | refine Below.drew ?_))) (Nat.le_refl _))).mono ?_
            rintro e w5 ⟨rfl, hb5⟩
            have hc5 := fun o => hb5.cell (p := ⟨wr.heap.size, o, none⟩) (by simp; omega)
            have hc6 := fun o => hb5.cell (p := ⟨wr.heap.size + 1, o, none⟩) (by simp; done)
            have hIn := Lib.hid (hI.out.go (Below.on hb5 (n := wr.heap.size) (W0 := wr) (by (repeat (first | exact Below.refl _ _ | (refine Below.alloc ?_ (by first | omega | (simp; done) | (simp; omega)) _) | (refine Below.on (by assumption) ?_ (by first | omega | (simp; done) | (simp; omega))) | (refine Below.grown ?_ (by assumption) (by first | omega | (simp; done) | (simp; omega)) (by intro k hk; cases hk)) | refine Below.drew ?_))) (by simp; omega)))
            clear hb5
            go_wp2_with fail
            go_roundw
            case rel => exact ⟨i + 1, by omega, by omega, by go_num, hIn⟩
            case measure => simp [intOf]; omega
        · refine AllReadyH.cons rfl (fun K hK => ?_) AllReadyH.nil
          go_simp
          refine hK.out _ _ (HSG.out _ (by (repeat (first | exact Below.refl _ _ | (refine Below.alloc ?_ (by first | omega | (simp; done) | (simp; omega)) _) | (refine Below.on (by assumption) ?_ (by first | omega | (simp; done) | (simp; omega))) | (refine Below.grown ?_ (by assumption) (by first | omega | (simp; done) | (simp; omega)) (by intro k hk; cases hk)) | refine Below.drew ?_)))) (fun hHeld => ?_)
          clear hK K
          (try simp only [Act.put, List.getElem_toArray, List.getElem_cons_zero, List.getElem_cons_succ, List.setIfInBounds_toArray, List.set_cons_zero, List.set_cons_succ])
          refine wpAnyH_ready (rs := [9]) (by kernel_rfl) (by simp) ?_
          refine AllReadyH.cons rfl (fun K hK => ?_) AllReadyH.nil
          go_simp
          refine hK.out _ _ (HSG.out _ (by (repeat (first | exact Below.refl _ _ | (refine Below.alloc ?_ (by first | omega | (simp; done) | (simp; omega)) _) | (refine Below.on (by assumption) ?_ (by first | omega | (simp; done) | (simp; omega))) | (refine Below.grown ?_ (by assumption) (by first | omega | (simp; done) | (simp; omega)) (by intro k hk; cases hk)) | refine Below.drew ?_)))) (fun hHeld => ?_)
          clear hK K
          (try simp only [Act.put, List.getElem_toArray, List.getElem_cons_zero, List.getElem_cons_succ, List.setIfInBounds_toArray, List.set_cons_zero, List.set_cons_succ])
          refine wpAnyH_ready (rs := [11]) (by kernel_rfl) (by simp) ?_
          refine AllReadyH.cons rfl (fun K hK => ?_) AllReadyH.nil
          go_simp
          refine hK.out _ _ (HSG.out _ (by (repeat (first | exact Below.refl _ _ | (refine Below.alloc ?_ (by first | omega | (simp; done) | (simp; omega)) _) | (refine Below.on (by assumption) ?_ (by first | omega | (simp; done) | (simp; omega))) | (refine Below.grown ?_ (by assumption) (by first | omega | (simp; done) | (simp; omega)) (by intro k hk; cases hk)) | refine Below.drew ?_)))) (fun hHeld => ?_)
          clear hK K
          (try simp only [Act.put, List.getElem_toArray, List.getElem_cons_zero, List.getElem_cons_succ, List.setIfInBounds_toArray, List.set_cons_zero, List.set_cons_succ])
          refine wpAnyH_ready (rs := [12]) (by kernel_rfl) (by simp) ?_
          refine AllReadyH.cons rfl (fun K hK => ?_) AllReadyH.nil
          go_simp
          refine hK.out _ _ (HSG.out _ (by (repeat (first | exact Below.refl _ _ | (refine Below.alloc ?_ (by first | omega | (simp; done) | (simp; omega)) _) | (refine Below.on (by assumption) ?_ (by first | omega | (simp; done) | (simp; omega))) | (refine Below.grown ?_ (by assumption) (by first | omega | (simp; done) | (simp; omega)) (by intro k hk; cases hk)) | refine Below.drew ?_)))) (fun hHeld => ?_)
          clear hK K
          (try simp only [Act.put, List.getElem_toArray, List.getElem_cons_zero, List.getElem_cons_succ, List.setIfInBounds_toArray, List.set_cons_zero, List.set_cons_succ])
          refine wpAnyH_done (by kernel_rfl) ?_ _
          clear hHeld
          rcases hor with e1 | ⟨e1, e2⟩
          all_goals
            go_wp2_with fail
            refine (HAFk.out _ (HLI.out.below (n := wr.heap.size) (by (repeat (first | exact Below.refl _ _ | (refine Below.alloc ?_ (by first | omega | (simp; done) | (simp; omega)) _) | (refine Below.on (by assumption) ?_ (by first | omega | (simp; done) | (simp; omega))) | (refine Below.grown ?_ (by assumption) (by first | omega | (simp; done) | (simp; omega)) (by intro k hk; cases hk)) | refine Below.drew ?_))) (Nat.le_refl _))).mono ?_
            rintro e w5 ⟨rfl, hb5⟩
            have hc5 := fun o => hb5.cell (p := ⟨wr.heap.size, o, none⟩) (by simp; omega)
            have hc6 := fun o => hb5.cell (p := ⟨wr.heap.size + 1, o, none⟩) (by simp; done)
            have hIn := Lib.hid (hI.out.go (Below.on hb5 (n := wr.heap.size) (W0 := wr) (by (repeat (first | exact Below.refl _ _ | (refine Below.alloc ?_ (by first | omega | (simp; done) | (simp; omega)) _) | (refine Below.on (by assumption) ?_ (by first | omega | (simp; done) | (simp; omega))) | (refine Below.grown ?_ (by assumption) (by first | omega | (simp; done) | (simp; omega)) (by intro k hk; cases hk)) | refine Below.drew ?_))) (by simp; omega)))
            clear hb5
            go_wp2_with fail
            go_roundw
            case rel => exact ⟨i + 1, by omega, by omega, by go_num, hIn⟩
            case measure => simp [intOf]; omega
        /- ENDSHAPE -/
      · obtain ⟨m, hm⟩ : ∃ m, F.length = m + 1 := ⟨F.length - 1, by omega⟩
        have hml : m < F.length := by omega
        obtain ⟨z0, z1, z2⟩ := hSC.out.cells hml
        have hlast := HOK.out.last
        rw [hm, Nat.add_sub_cancel] at hlast
        rw [hlast.1] at z1
        rw [hlast.2] at z2
        simp only [Nat.zero_add, far] at z0 z1 z2
        have hgl2 : g < wr.heap.size := by obtain ⟨g', cap', e, _, _, h'⟩ := own_form hI.out.2.1 h0 rfl; simp at e; omega
        have hB := Lib.hid hI.out.2.2
        have hw : IntKind.i64.wrap ((F.length : Int) - 1) = (m : Int) := by rw [IntKind.wrap_i64]; omega
        have hbs := Lib.hid hI.out.2.2.size
        clear hlast hm hSC hI hi
        generalize (shAt F m).t = zt at *
        go_wp2_with (first
          | ((with_reducible refine store_new (dst := none) 32 (.tmp 10) (.tmp 98) wr _ #[.int .i64 zt, .int .i64 (-4503599627370496), .int .i64 4503599627370496] 32 rfl ?_ ?_ ?_ ?_ ?_ ?_); rfl; rfl; exact shInfo; rfl; (simp [Value.oneCell'])))
        go_ret
        exact ⟨rfl, hB.out.alloc hbs.out _⟩
end Go.Proofs.Ythinaifeifnefaa
