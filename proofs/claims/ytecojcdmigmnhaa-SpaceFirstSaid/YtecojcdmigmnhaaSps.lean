/- Spaces: speaks, the document's example. -/
import Derived.Test.YtecojcdmigmnhaaSpf
namespace Go.Proofs.Ytecojcdmigmnhaa
set_option linter.unusedSimpArgs false
set_option linter.unusedVariables false
open Go.RowKit
theorem callfun_at {P : Program} {n : FuncId} (h : ∀ (a : Array Value) (w : World), Sem.run P (callFunc n a) w = .ok (.enter n a) w) (c : Array Value) : ∀ (y : Int) (w : World), Sem.run P (callFunc n (#[.int .i64 y] ++ c)) w = .ok (.enter n (#[.int .i64 y] ++ c)) w := fun _ w => h _ w
theorem cf_speaks : ∀ (a : Array Value) (w : World), Sem.run Try.prog (callFunc 55 a) w = .ok (.enter 55 a) w := fun a w => by kernel_rfl
set_option maxRecDepth 20000 in
set_option maxHeartbeats 2000000 in
theorem speaks1_any (L : List Fo) (y : Int) (base sp bv : Nat) (w : World) (h : SpaceIs w base sp L) (hc : w.cell? ⟨bv, 0, none⟩ = some (.pointer (some ⟨sp, 0, none⟩))) (hbv : bv < w.heap.size) (hk : SpOk L) (hy : -4503599627370496 ≤ y ∧ y ≤ 4503599627370495) :
    Calls Try.prog 55 #[.int .i64 y, .pointer (some ⟨bv, 0, none⟩)] w fun e w' => e = .returned (.bool (decide ((band L y (y + 1)).1 < 0))) ∧ Below w.heap.size w w' := by
  have hr := fun w => srows_any y 1 w (by omega) (by omega)
  have hb := fun w h => bounds10_any L y (y + hgh 1) base sp w h hk (by unfold Mid; omega) (by unfold Mid hgh; omega) (by unfold far; omega)
  unfold SpanPost at hr hb
  simp only [show hgh 1 = 1 from rfl] at hr hb
  generalize band L y (y + 1) = q at *
  obtain ⟨q1, q2⟩ := q
  have hfd := fun w => spF0 (.int .i64 q1) (.int .i64 q2) w
  have HR := Lib.hid hr
  have HB := Lib.hid hb
  have HH := Lib.hid h
  have HK : Hid (∀ w', Below w.heap.size w w' → (Below w.heap.size w w' ∧ w'.cell? ⟨bv, 0, none⟩ = some (.pointer (some ⟨sp, 0, none⟩)))) :=
    fun w' hB => ⟨hB, (hB.cell (p := ⟨bv, 0, none⟩) hbv).trans hc⟩
  obtain ⟨b, hd⟩ : ∃ b, decide (q1 < 0) = b := ⟨_, rfl⟩
  rw [hd]
  clear hr hb h hc
  go_enter Try.func55, Try.ntmps55
  go_wp2_with fail
  go_region_held3 (fun w' => Below w.heap.size w w' ∧ w'.cell? ⟨bv, 0, none⟩ = some (.pointer (some ⟨sp, 0, none⟩))) (first | exact HK.out _ (Below.refl _ _) | exact HK.out _ ((Below.refl _ _).drew) | exact HK.out _ (Below.onto HBx.out (And.left (by assumption)))) (first
    | ((with_reducible refine (HR.out _).mono ?_); rintro e w4 ⟨rfl, hb4⟩; have HBx := Lib.hid hb4; clear hb4)
    | ((with_reducible refine (HB.out _ (HH.out.below (And.left (by assumption)) (Nat.le_refl _))).mono ?_); rintro e w5 ⟨rfl, hb5⟩; have HBx := Lib.hid hb5; clear hb5))
  rename_i hH
  have HF := Lib.hid hH.1
  clear hH
  go_wp2_with fail
  go_ret
  exact ⟨rfl, HF.out⟩
def spkL : List Fo := [⟨1, 0, 2, 3, 5⟩]
theorem spk_full : full (shelves spkL) = [⟨-far, -far, far⟩, ⟨2, 3, far⟩, ⟨5, -far, far⟩] := rfl
theorem spk_rest : rest (full (shelves spkL)) 3 = [⟨5, -far, far⟩] := rfl
theorem spk_ok : SpOk spkL := ⟨fun f hf => by simp only [spkL, List.mem_singleton] at hf; subst hf; decide, by decide⟩
theorem spk_first : firstL (fun y => decide ((band spkL y (y + 1)).1 < 0)) 3 (rest (full (shelves spkL)) 3) = 5 := by
  rw [spk_rest]
  decide
set_option maxRecDepth 20000 in
set_option maxHeartbeats 2000000 in
theorem speaks10_any (w : World) : Calls Try.prog 15 #[] w fun e w' => e = .returned (.bool true) ∧ Below w.heap.size w w' := by
  have hpu := fun base sp w h hb => put_any [] ⟨1, 0, 2, 3, 5⟩ base sp w h ShOk.nil (by decide) (by unfold Mid; decide) (by unfold Mid; decide) (by unfold Mid; decide) (by unfold Mid; decide) (by decide) (by decide) (.inl rfl) hb
  have hfi := fun base sp bv (w : World) hbv h => first_any spkL (fun y => decide ((band spkL y (y + 1)).1 < 0)) 55 #[.pointer (some ⟨bv, 0, none⟩)] base sp (fun _ w' => SpaceIs w' base sp spkL ∧ w'.cell? ⟨bv, 0, none⟩ = some (.pointer (some ⟨sp, 0, none⟩)) ∧ Below w.heap.size w w') (fun y => -4503599627370496 ≤ y ∧ y ≤ 4503599627370495)
    (callfun_at cf_speaks _) (fun _ _ h => h.1) (fun _ w1 w2 h hb => ⟨h.1.below hb (Nat.le_refl _), (hb.cell (p := ⟨bv, 0, none⟩) (Nat.lt_of_lt_of_le hbv h.2.2.size)).trans h.2.1, Below.onto hb h.2.2⟩)
    (fun A y w1 h hq => (speaks1_any spkL y base sp bv w1 h.1 h.2.1 (Nat.lt_of_lt_of_le hbv h.2.2.size) spk_ok hq).mono fun e w2 ⟨he, hb⟩ => ⟨he, h.1.below hb (Nat.le_refl _), (hb.cell (p := ⟨bv, 0, none⟩) (Nat.lt_of_lt_of_le hbv h.2.2.size)).trans h.2.1, Below.onto hb h.2.2⟩)
    spk_ok 3 (by decide) (by rw [spk_full]; decide) w h
  unfold FirstPost at hfi
  rw [spk_first] at hfi
  have hfl := fun base sp w h => floats_any spkL base sp w h (by decide)
  unfold FloatsPost at hfl
  have HPU := Lib.hid hpu
  have HFI := Lib.hid hfi
  have HFL := Lib.hid hfl
  clear hpu hfi hfl
  go_enter Try.func15, Try.ntmps15
  go_wp2_with fail
  refine (spnew_any w).mono ?_
  rintro e w1 ⟨sp, rfl, hs1, hb1⟩
  have HS1 := Lib.hid hs1
  have HB1 := Lib.hid hb1
  clear hs1 hb1
  go_wp2_with fail
  have hb2 := HB1.out.alloc HB1.out.size (.cells #[.pointer (some ⟨sp, 0, none⟩)] 34)
  have hs2 := HS1.out.below (n := w1.heap.size) ((Below.refl w1.heap.size w1).alloc (Nat.le_refl _) (.cells #[.pointer (some ⟨sp, 0, none⟩)] 34)) (Nat.le_refl _)
  have hv2 := heap_alloc_new w1 (.cells #[.pointer (some ⟨sp, 0, none⟩)] 34)
  generalize w1.alloc (.cells #[.pointer (some ⟨sp, 0, none⟩)] 34) = w2 at *
  obtain ⟨bv, hbv⟩ : ∃ b, w1.heap.size = b := ⟨_, rfl⟩
  have hbw : w.heap.size ≤ bv := by have := HB1.out.size; omega
  rw [hbv] at hv2 ⊢
  have hspl := HS1.out.lt
  rw [hbv] at hspl
  clear HS1 HB1 hbv w1
  refine (HPU.out w.heap.size sp w2 hs2 hb2.size).mono ?_
  unfold PutPost
  rintro e w3 ⟨rfl, hs3, ht3⟩
  have hv3 := (ht3.2 bv (Array.getElem?_eq_some_iff.1 hv2).1 (.inr ⟨by omega, fun ⟨C, f, e⟩ => by
    rcases e with e | e | e
    all_goals
      have := hv2.symm.trans e
      injection this with this
      injection this with _ h2
      exact absurd h2 (by decide)⟩)).trans hv2
  have hb3 := hb2.trans (ht3.below hb2.size)
  have c3 : w3.cell? ⟨bv, 0, none⟩ = some (.pointer (some ⟨sp, 0, none⟩)) := cell_of_row w3 bv 0 _ _ (0, 0) hv3
  have hbl : bv < w3.heap.size := (Array.getElem?_eq_some_iff.1 hv3).1
  have HS3 : Hid (SpaceIs w3 w.heap.size sp spkL) := Lib.hid hs3
  have HB3 := Lib.hid hb3
  clear hs2 hv2 hs3 ht3 hv3 hb2 hb3
  go_wp2_with fail
  refine (HFI.out w.heap.size sp bv w3 hbl ⟨HS3.out, c3, Below.refl _ _⟩).mono ?_
  rintro e w4 ⟨rfl, hs4, c4, hb4⟩
  have HS4 := Lib.hid hs4
  have HB4 := Lib.hid (Below.onto hb4 HB3.out)
  clear hs4 hb4 c3
  go_wp2_with fail
  refine (HFL.out w.heap.size sp w4 HS4.out).mono ?_
  rintro e w5 ⟨v5, rfl, ho5, hb5⟩
  obtain ⟨g5, cap5, rfl, _, _, _⟩ := own_form ho5 (by decide) rfl
  have HB5 := Lib.hid (Below.onto hb5 HB4.out)
  clear ho5 hb5
  go_wp2_with fail
  go_ret
  exact ⟨rfl, HB5.out⟩
end Go.Proofs.Ytecojcdmigmnhaa
