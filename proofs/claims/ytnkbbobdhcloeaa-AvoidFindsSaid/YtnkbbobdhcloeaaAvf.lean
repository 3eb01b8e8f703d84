/- Avoid: At, the document's Find, a document's rectangle as the program's. -/
import Derived.Test.YtnkbbobdhcloeaaAv5
import Derived.Test.YtnkbbobdhcloeaaNz
namespace Go.Proofs.Ytnkbbobdhcloeaa
set_option linter.unusedSimpArgs false
set_option linter.unusedVariables false
open Go.RowKit
theorem topA_edge {L : List Fo} {q : Wa} (hl : nearB L = true) (hq : okWa q = true) : topA L q = q.y ∨ isEdge L (topA L q) := by
  obtain ⟨⟨_, _, _, _, h5⟩, _⟩ := okWa_at hq
  unfold in48 at h5
  exact stop_edge L (soW L q) q.y (by unfold far; omega) (topA_first (near_low hl) hq)
theorem rectRInfo : (Try.prog.info? 51).map (·.size) = some 4 := by kernel_rfl
theorem box5f {w : World} {b : Nat} {q : Wa} {T : TypeId} (h : w.heap[b]? = some (.cells #[.int .i64 q.a, .int .i64 q.b, .int .i64 q.wd, .int .i64 q.h, .int .i64 q.y] T (0, 0))) :
    w.cell? ⟨b, 0, none⟩ = some (.int .i64 q.a) ∧ w.cell? ⟨b, 1, none⟩ = some (.int .i64 q.b) ∧ w.cell? ⟨b, 2, none⟩ = some (.int .i64 q.wd) ∧ w.cell? ⟨b, 3, none⟩ = some (.int .i64 q.h) ∧ w.cell? ⟨b, 4, none⟩ = some (.int .i64 q.y) :=
  ⟨cell_of_row w b 0 _ _ (0, 0) h, cell_of_row w b 1 _ _ (0, 0) h, cell_of_row w b 2 _ _ (0, 0) h, cell_of_row w b 3 _ _ (0, 0) h, cell_of_row w b 4 _ _ (0, 0) h⟩
theorem blk_keepf {w w' : World} {b : Nat} {o : Obj} (h : w.heap[b]? = some o) (hb : Below w.heap.size w w') : w'.heap[b]? = some o := (hb.block b (Array.getElem?_eq_some_iff.1 h).1).trans h
set_option maxRecDepth 20000 in
theorem of02_any (a b c d : Int) (w : World) : Calls Try.prog 25 #[.agg #[.int .i64 a, .int .i64 b, .int .i64 c, .int .i64 d]] w fun e w' => e = .returned (.agg #[.int .i64 a, .int .i64 b, .int .i64 c, .int .i64 d]) ∧ Below w.heap.size w w' := by
  go_enter Try.func25, Try.ntmps25
  go_wp2
  exact bodyPost_ret (v := .agg #[.int .i64 a, .int .i64 b, .int .i64 c, .int .i64 d]) (by simp [results, Try.results25, go_sem]) rfl ⟨rfl, by (repeat (first | exact Below.refl _ _ | (refine Below.alloc ?_ (by first | omega | (simp; done) | (simp; omega)) _) | (refine Below.on (by assumption) ?_ (by first | omega | (simp; done) | (simp; omega))) | (refine Below.grown ?_ (by assumption) (by first | omega | (simp; done) | (simp; omega)) (by intro k hk; cases hk)) | refine Below.drew ?_))⟩
set_option maxRecDepth 20000 in
set_option maxHeartbeats 4000000 in
theorem at_any12 (L : List Fo) (q : Wa) (y : Int) (base sp : Nat) (w : World) (h : SpaceIs w base sp L) (hn : nearB L = true) (hl : L.length ≤ 100000) (hq : okWa q = true) (hy : -4503599627370496 ≤ y ∧ y ≤ 2251799813685248) :
    Calls Try.prog 24 #[.pointer (some ⟨sp, 0, none⟩), .agg #[.int .i64 q.a, .int .i64 q.b, .int .i64 q.wd, .int .i64 q.h, .int .i64 q.y], .int .i64 y] w (AtPost L q y w) := by
  have hok : SpOk L := ⟨near_low hn, hl⟩
  have hsm : ∀ f ∈ L, smallF f = true := fun f hf => near_small (nearB_at hn f hf)
  obtain ⟨b0, hb0⟩ : ∃ b, w.heap.size = b := ⟨_, rfl⟩
  obtain ⟨W3, hW3⟩ : ∃ W, (w.alloc (.cells #[.int .i64 q.a, .int .i64 q.b, .int .i64 q.wd, .int .i64 q.h, .int .i64 q.y] 35)).alloc (.cells (skC q sp 0) 80) = W := ⟨_, rfl⟩
  have hs3 : W3.heap.size = b0 + 2 := by rw [← hW3, ← hb0]; simp
  have r2 : W3.heap[b0 + 1]? = some (.cells (skC q sp 0) 80 (0, 0)) := by rw [← hW3, ← hb0]; exact heap_alloc2_new w _ _
  have hB3 : Below w.heap.size w W3 := by rw [← hW3]; exact ((Below.refl _ _).alloc (Nat.le_refl _) _).alloc (by simp) _
  have hft := fits_any L q y 0 base sp (b0 + 1) W3 (h.below hB3 (Nat.le_refl _)) r2 hok hsm hq hy
  unfold FitPost at hft
  unfold AtPost
  have HFT := Lib.hid hft
  have HW3 := Lib.hid hW3
  have HB0 := Lib.hid hb0
  have HB3 := Lib.hid hB3
  have HS3 := Lib.hid hs3
  unfold skC at HW3
  clear hft hW3 hb0 hB3 hs3 r2 h hn hl hq hy hok hsm
  obtain ⟨lv, hlv⟩ : ∃ t, leftA L q y = t := ⟨_, rfl⟩
  rw [hlv] at HFT ⊢
  cases hso : soW L q y with
  | false =>
    rw [hso] at HFT
    go_enter Try.func24, Try.ntmps24
    go_wp2_with fail
    rw [HW3.out, HB0.out]
    refine HFT.out.mono ?_
    rintro e w4 ⟨rfl, hk4, hg4⟩
    have HB4 := Lib.hid (HB3.out.grown hg4 (by have := HB3.out.size; omega) (fun k hk => by have := HB0.out; simp at hk; omega))
    clear hg4 hk4
    go_wp2_with fail
    exact bodyPost_ret (v := .tuple #[.int .i64 0, .bool false]) (by simp [results, Try.results24, go_sem]) rfl ⟨rfl, HB4.out⟩
  | true =>
    rw [hso] at HFT
    go_enter Try.func24, Try.ntmps24
    go_wp2_with fail
    rw [HW3.out, HB0.out]
    refine HFT.out.mono ?_
    rintro e w4 ⟨rfl, hk4, hg4⟩
    have HB4 := Lib.hid (HB3.out.grown hg4 (by have := HB3.out.size; omega) (fun k hk => by have := HB0.out; simp at hk; omega))
    have k6 : w4.cell? ⟨b0 + 1, 6, none⟩ = some (.int .i64 lv) := cell_of_row w4 (b0 + 1) 6 _ _ (0, 0) hk4
    clear hg4 hk4
    go_wp2_with fail
    exact bodyPost_ret (v := .tuple #[.int .i64 lv, .bool true]) (by simp [results, Try.results24, go_sem]) rfl ⟨rfl, HB4.out⟩
set_option maxRecDepth 20000 in
set_option maxHeartbeats 4000000 in
theorem rfind_any12 (L : List Fo) (v : Value) (q : Wa) (w : World) (h : IsFos w v L) (hn : L.length ≤ maxLen) (hnb : nearB L = true) (hq : okWa q = true) :
    Calls Try.prog 26 #[v, .agg #[.int .i64 q.a, .int .i64 q.b, .int .i64 q.wd, .int .i64 q.h, .int .i64 q.y]] w (FindPost L q w) := by
  obtain ⟨A, cap0, rfl, hx1, hx2⟩ := id h
  clear hx1 hx2
  have hfs := topA_first (near_low hnb) hq
  have hed := topA_edge hnb hq
  have hti := topA_in hnb hq
  have hat := fun y w h (hy : -4503599627370496 ≤ y ∧ y ≤ 2251799813685248) => rat12_any L (.slice A L.length cap0) q y w h hn (fun f hf => near_small (nearB_at hnb f hf)) hq hy
  have hnx := fun y w h => next_any L (.slice A L.length cap0) y w h hn
  have hst := fun (y : Int) h1 h2 hs => next_step (y := y) hfs hed h1 h2 hs (nxs_is L y)
  obtain ⟨⟨ia, ib, iw, ih, iy⟩, i0⟩ := okWa_at hq
  unfold in48 at ia ib iw ih iy
  have hli := leftA_in hfs.2.1 i0
  unfold AtPost at hat
  unfold NxPost at hnx
  unfold FindPost
  have hqt := hfs.1
  have htr := hfs.2.1
  generalize topA L q = tp at *
  have hlv : -1125899906842624 ≤ leftA L q tp ∧ leftA L q tp ≤ 1125899906842624 := by omega
  obtain ⟨lv, hlw⟩ : ∃ t, leftA L q tp = t := ⟨_, rfl⟩
  rw [hlw] at hlv ⊢
  have HLW := Lib.hid hlw
  clear hlw
  obtain ⟨b0, hb0⟩ : ∃ b, w.heap.size = b := ⟨_, rfl⟩
  obtain ⟨W2, hW2⟩ : ∃ W, (w.alloc (.cells #[.int .i64 q.a, .int .i64 q.b, .int .i64 q.wd, .int .i64 q.h, .int .i64 q.y] 24)).alloc (.cells #[.int .i64 0, .int .i64 0, .int .i64 0, .int .i64 0] 51) = W := ⟨_, rfl⟩
  have r0 : W2.heap[b0]? = some (.cells #[.int .i64 q.a, .int .i64 q.b, .int .i64 q.wd, .int .i64 q.h, .int .i64 q.y] 24 (0, 0)) := by rw [← hW2, ← hb0, heap_alloc_old _ _ (by simp)]; exact heap_alloc_new w _
  have r1 : W2.heap[b0 + 1]? = some (.cells #[.int .i64 0, .int .i64 0, .int .i64 0, .int .i64 0] 51 (0, 0)) := by rw [← hW2, ← hb0]; exact heap_alloc2_new w _ _
  have hB2 : Below w.heap.size w W2 := by rw [← hW2]; exact ((Below.refl _ _).alloc (Nat.le_refl _) _).alloc (by simp) _
  have HF := Lib.hid (h.below hB2 (Nat.le_refl _))
  have HAT := Lib.hid hat
  have HNX := Lib.hid hnx
  have HST := Lib.hid hst
  have HTR := Lib.hid hfs.2.2
  have HW2 := Lib.hid hW2
  have HB0 := Lib.hid hb0
  have HB2 := Lib.hid hB2
  have R0 := Lib.hid r0
  have R1 := Lib.hid r1
  have c4 : W2.cell? ⟨b0, 4, none⟩ = some (.int .i64 q.y) := cell_of_row W2 b0 4 _ _ (0, 0) r0
  clear hat hnx hst htr hW2 hb0 hB2 r0 r1 h hn hnb hq hfs hed hli ia ib
  go_enter Try.func26, Try.ntmps26
  go_wp2_with fail
  rw [HW2.out, HB0.out]
  go_wp2_with fail
  clear c4
  go_loopw [5] (fun x wr => ∃ y : Int, x = .int .i64 y ∧ q.y ≤ y ∧ y ≤ tp ∧ Hid (Below W2.heap.size W2 wr)) (fun x _ => (tp - intOf x).toNat)
  case atStart => exact ⟨q.y, rfl, Int.le_refl _, hqt, Lib.hid (Below.refl _ _)⟩
  case round =>
    obtain ⟨y, rfl, hy1, hy2, hI⟩ := hrel
    have hr0 := blk_keepf R0.out hI.out
    have HR1 := Lib.hid (blk_keepf R1.out hI.out)
    have HFr := Lib.hid (HF.out.below hI.out (Nat.le_refl _))
    obtain ⟨x0, x1, x2, x3, x4⟩ := box5f hr0
    have HR0 := Lib.hid hr0
    clear hr0
    by_cases hso : soW L q y = true
    · have hyt : y = tp := by have := HTR.out y hy1 hso; omega
      subst hyt
      have hA := Lib.hid (HAT.out y wr HFr.out (by omega))
      rw [hso, if_pos rfl, HLW.out] at hA
      clear hso HST
      go_wp2_with fail
      refine hA.out.mono ?_
      rintro e w3 ⟨rfl, hb3⟩
      have hr1 := blk_keepf HR1.out hb3
      have HB3 := Lib.hid (Below.onto (Below.onto hb3 hI.out) HB2.out)
      clear x0 x1 x2 x3 x4
      obtain ⟨x0, x1, x2, x3, x4⟩ := box5f (blk_keepf HR0.out hb3)
      have HR := Lib.hid hr1
      clear hb3 hr1
      go_wp2_with (first
        | ((with_reducible refine store_row (dst := none) 51 (.tmp 4) (.tmp 30) (b0 + 1) _ #[.int .i64 lv, .int .i64 y, .int .i64 (lv + q.wd), .int .i64 (y + q.h)] 51 HR.out ?_ ?_ ?_ ?_ ?_ ?_); rfl; rfl; exact rectRInfo; rfl; (simp [Value.oneCell']); intro w6 hw6 hg6 hz7; have HW6 := Lib.hid hw6; have HG6 := Lib.hid hg6; clear hw6 hg6))
      have d0 := cell_of_row w6 (b0 + 1) 0 _ _ (0, 0) HW6.out
      have d1 := cell_of_row w6 (b0 + 1) 1 _ _ (0, 0) HW6.out
      have d2 := cell_of_row w6 (b0 + 1) 2 _ _ (0, 0) HW6.out
      have d3 := cell_of_row w6 (b0 + 1) 3 _ _ (0, 0) HW6.out
      refine bodyPost_ret (v := .agg #[.int .i64 lv, .int .i64 y, .int .i64 (lv + q.wd), .int .i64 (y + q.h)]) (by simp [results, Try.results26, go_sem, d0, d1, d2, d3]) rfl ⟨rfl, HB3.out.grown HG6.out (by have := HB3.out.size; omega) (fun k hk => by have := HB0.out; simp at hk; omega)⟩
    · have hso' : soW L q y = false := by simpa using hso
      obtain ⟨hm1, hm2, hm3⟩ := HST.out y hy1 hy2 hso'
      have hA := Lib.hid (HAT.out y wr HFr.out (by omega))
      rw [hso', if_neg (by decide)] at hA
      have hN := Lib.hid (HNX.out y)
      rw [hm1] at hN
      generalize (nxs L y).1 = ny at *
      clear hso hso' hm1
      go_wp2_with fail
      refine hA.out.mono ?_
      rintro e w3 ⟨rfl, hb3⟩
      clear x0 x1 x2 x3 x4
      have HF3 := Lib.hid (HFr.out.below hb3 (Nat.le_refl _))
      have HB3 := Lib.hid (Below.onto hb3 hI.out)
      clear hb3
      go_wp2_with fail
      refine (hN.out w3 HF3.out).mono ?_
      rintro e w4 ⟨rfl, hb4⟩
      have HB4 := Lib.hid (Below.onto hb4 HB3.out)
      clear hb4
      go_wp2_with fail
      go_roundw
      case rel => exact ⟨ny, rfl, by omega, hm3, HB4⟩
      case measure => simp [intOf]; omega
end Go.Proofs.Ytnkbbobdhcloeaa
