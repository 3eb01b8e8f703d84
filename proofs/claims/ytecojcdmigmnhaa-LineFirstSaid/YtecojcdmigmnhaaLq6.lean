/- Law LineFirst: its walk. -/
import Derived.Test.YtecojcdmigmnhaaLq5
namespace Go.Proofs.Ytecojcdmigmnhaa
set_option linter.unusedSimpArgs false
set_option linter.unusedVariables false
open Go.RowKit
/- LineFirst itself. -/
theorem rszElem1 (w : World) (z : Int × Int) : IsSl szC 2 (w.alloc (.cells #[.int .i64 z.1, .int .i64 z.2] 67)) (.slice (some ⟨w.heap.size, 0, none⟩) 1 1) [z] := isSl_new szC_len w [z] 67 _ (by simp [flat, szC]) 1 rfl
set_option maxRecDepth 20000 in
set_option maxHeartbeats 4000000 in
theorem lineFirst_any (L : List Fo) (a b y : Int) (v0 : Value) (z : Int × Int) (w : World) (h0 : IsFos w v0 L) (hL0 : L.length ≤ maxLen) (hyw : -9223372036854775808 ≤ y ∧ y ≤ 9223372036854775807) : Calls Try.prog 8 #[v0, .int .i64 a, .int .i64 b, .int .i64 y, .agg #[.int .i64 z.1, .int .i64 z.2]] w fun e w' => e = .returned (.bool true) ∧ Below w.heap.size w w' := by
  obtain ⟨z1, z2⟩ := z
  simp only
  obtain ⟨bf, hbf⟩ : ∃ b, w.heap.size = b := ⟨_, rfl⟩
  obtain ⟨W, hW⟩ : ∃ W, ((w.alloc (.cells #[.int .i64 a] 3)).alloc (.cells #[.int .i64 b] 3)).alloc (.cells #[.int .i64 z1, .int .i64 z2] 67) = W := ⟨_, rfl⟩
  have hb0 : Below w.heap.size w W := by rw [← hW]; exact (((Below.refl _ _).alloc (Nat.le_refl _) _).alloc (by simp) _).alloc (by simp; omega) _
  have hz0 : W.heap.size = bf + 3 := by rw [← hW, ← hbf]; simp
  have gf : W.heap[bf]? = some (.cells #[.int .i64 a] 3 (0, 0)) := by rw [← hW, ← hbf, heap_alloc_old _ _ (by simp; omega), heap_alloc_old _ _ (by simp), heap_alloc_new]
  have gt : W.heap[bf + 1]? = some (.cells #[.int .i64 b] 3 (0, 0)) := by rw [← hW, ← hbf, heap_alloc_old _ _ (by simp)]; exact heap_alloc2_new w _ _
  have gz : W.heap[bf + 1 + 1]? = some (.cells #[.int .i64 z1, .int .i64 z2] 67 (0, 0)) := by
    have h := heap_alloc_new ((w.alloc (.cells #[.int .i64 a] 3)).alloc (.cells #[.int .i64 b] 3)) (.cells #[.int .i64 z1, .int .i64 z2] 67)
    rw [hW, show ((w.alloc (.cells #[.int .i64 a] 3)).alloc (.cells #[.int .i64 b] 3)).heap.size = bf + 1 + 1 by rw [← hbf]; simp] at h
    exact h
  have HF := Lib.hid (h0.below hb0 (Nat.le_refl _))
  have HW := Lib.hid hW
  have HB0 := Lib.hid hb0
  have HBF := Lib.hid hbf
  have GF := Lib.hid gf
  have GT := Lib.hid gt
  have GZ := Lib.hid gz
  have HZ0 := Lib.hid hz0
  clear hbf hW hb0 hz0 gf gt gz h0
  go_enter Try.func8, Try.ntmps8
  go_wp2_with fail
  rw [HW.out, HBF.out]
  by_cases hnr : near13 L a b y = true ∧ (L.length : Int) ≤ 20
  · refine (begin13_yes v0 L a b y W HF.out hnr.1 hnr.2).mono ?_
    rintro e w1 ⟨sp, rfl, hs1, hb1⟩
    have HNO := near13_of hnr.1
    have HL20 := hnr.2
    clear hnr
    have hbn := (Below.refl w1.heap.size w1).alloc (Nat.le_refl _) (.cells #[.pointer (some ⟨sp, 0, none⟩)] 34)
    have gs := heap_alloc_new w1 (.cells #[.pointer (some ⟨sp, 0, none⟩)] 34)
    obtain ⟨bs, hbs⟩ : ∃ k, w1.heap.size = k := ⟨_, rfl⟩
    obtain ⟨w2, hw2⟩ : ∃ w2, w1.alloc (.cells #[.pointer (some ⟨sp, 0, none⟩)] 34) = w2 := ⟨_, rfl⟩
    have HS2 := Lib.hid (hs1.below (w' := w1.alloc (.cells #[.pointer (some ⟨sp, 0, none⟩)] 34)) hbn (Nat.le_refl _))
    have hB2 := hb1.trans (hbn.mono hb1.size)
    rw [hw2] at HS2 hB2 gs
    rw [hbs] at gs
    have HB2 := Lib.hid hB2
    have HG2 := Lib.hid gs
    have HW2 := Lib.hid hw2
    have HBS := Lib.hid hbs
    clear hs1 hb1 hbn hbs hw2 hB2 gs
    go_wp2_with fail
    rw [HW2.out, HBS.out]
    refine (speaks13_any w2).mono ?_
    rintro e w3 ⟨rfl, hb3⟩
    have HS3 := Lib.hid (HS2.out.below hb3 (Nat.le_refl _))
    have HB3 := Lib.hid (HB2.out.trans (hb3.mono HB2.out.size))
    have HG3 := Lib.hid (blk_keep HG2.out hb3)
    clear hb3
    have s3 : w3.cell? ⟨bs, 0, none⟩ = some (.pointer (some ⟨sp, 0, none⟩)) := cell_of_row w3 bs 0 _ _ (0, 0) HG3.out
    have z30 : w3.cell? ⟨bf + 1 + 1, 0, none⟩ = some (.int .i64 z1) := cell_of_row w3 (bf + 1 + 1) 0 _ _ (0, 0) (blk_keep GZ.out HB3.out)
    have z31 : w3.cell? ⟨bf + 1 + 1, 1, none⟩ = some (.int .i64 z2) := cell_of_row w3 (bf + 1 + 1) 1 _ _ (0, 0) (blk_keep GZ.out HB3.out)
    go_wp2_with fail
    have hb4 := (Below.refl w3.heap.size w3).alloc (Nat.le_refl _) (.cells #[.int .i64 z1, .int .i64 z2] 67)
    have hsl := rszElem1 w3 (z1, z2)
    simp only at hsl
    have HS4 := Lib.hid (HS3.out.below hb4 (Nat.le_refl _))
    have HB4 := Lib.hid (HB3.out.trans (hb4.mono HB3.out.size))
    have HG4 := Lib.hid (blk_keep HG3.out hb4)
    obtain ⟨w4, hw4⟩ : ∃ w4, w3.alloc (.cells #[.int .i64 z1, .int .i64 z2] 67) = w4 := ⟨_, rfl⟩
    rw [hw4] at hsl hb4 HS4 HB4 HG4 ⊢
    refine (right13_any _ [(z1, z2)] w4 hsl (by unfold maxLen; simp)).mono ?_
    rintro e w5 ⟨rfl, rfl⟩
    clear hb4 hsl hw4 z30 z31 s3
    cases hrt : [(z1, z2)].all szB with
    | false =>
      go_wp2_with fail
      refine (speaks13_any w4).mono ?_
      rintro e w5 ⟨rfl, hb5⟩
      have HB5 := Lib.hid (HB0.out.trans ((HB4.out.trans (hb5.mono HB4.out.size)).mono HB0.out.size))
      clear hb5
      go_wp2_with fail
      go_ret
      exact ⟨rfl, HB5.out⟩
    | true =>
      have hzo : szOk (z1, z2) := szB_ok (List.all_eq_true.1 hrt (z1, z2) (List.mem_cons_self ..))
      obtain ⟨⟨za, zb⟩, zc, zd⟩ := hzo
      simp only at za zb zc zd
      have f4 : w4.cell? ⟨bf, 0, none⟩ = some (.int .i64 a) := cell_of_row w4 bf 0 _ _ (0, 0) (blk_keep GF.out HB4.out)
      have t4 : w4.cell? ⟨bf + 1, 0, none⟩ = some (.int .i64 b) := cell_of_row w4 (bf + 1) 0 _ _ (0, 0) (blk_keep GT.out HB4.out)
      have s4 : w4.cell? ⟨bs, 0, none⟩ = some (.pointer (some ⟨sp, 0, none⟩)) := cell_of_row w4 bs 0 _ _ (0, 0) HG4.out
      have l4 := (Array.getElem?_eq_some_iff.1 HG4.out).1
      have hz4 := HB4.out.size
      have hz0 := HZ0.out
      clear hrt
      go_wp2_with (first
        | ((with_reducible refine store_new (dst := none) 61 (.tmp 12) (.tmp 38) w4 _ #[.int .i64 a, .int .i64 b] 61 rfl ?_ ?_ ?_ ?_ ?_ ?_); rfl; rfl; exact spanInfo; rfl; (simp [Value.oneCell'])))
      have hb5 := (Below.refl w4.heap.size w4).alloc (Nat.le_refl _) (.cells #[.int .i64 a, .int .i64 b] 61)
      have g5 := heap_alloc_new w4 (.cells #[.int .i64 a, .int .i64 b] 61)
      obtain ⟨w5, hw5⟩ : ∃ w5, w4.alloc (.cells #[.int .i64 a, .int .i64 b] 61) = w5 := ⟨_, rfl⟩
      obtain ⟨bc, hbc⟩ : ∃ k, w4.heap.size = k := ⟨_, rfl⟩
      have hrm : RoomIs w5 (bf + 1 + 1) bs bc bf (bf + 1) W.heap.size sp L a b z1 z2 := by
        have e := HB4.out.trans (hb5.mono HB4.out.size)
        rw [hw5] at e hb5 g5
        rw [hbc] at g5
        exact ⟨blk_keep GZ.out e, blk_keep HG4.out hb5, g5, blk_keep GF.out e, blk_keep GT.out e, HS4.out.below hb5 (Nat.le_refl _)⟩
      rw [hw5] at hb5 ⊢
      rw [hbc]
      have HRM5 := Lib.hid hrm
      have HB5 := Lib.hid (HB0.out.trans ((HB4.out.trans (hb5.mono HB4.out.size)).mono HB0.out.size))
      clear hb5 g5 hw5 hbc hrm f4 t4 s4
      refine (lnew_any sp a b y w5).mono ?_
      rintro e w6 ⟨bb, rfl, g6, hl6, hb6⟩
      have HRM6 := Lib.hid (HRM5.out.below hb6)
      have HB6 := Lib.hid (HB5.out.trans (hb6.mono HB5.out.size))
      have HG6 := Lib.hid g6
      have z60 : w6.cell? ⟨bf + 1 + 1, 0, none⟩ = some (.int .i64 z1) := cell_of_row w6 (bf + 1 + 1) 0 _ _ (0, 0) HRM6.out.z
      have z61 : w6.cell? ⟨bf + 1 + 1, 1, none⟩ = some (.int .i64 z2) := cell_of_row w6 (bf + 1 + 1) 1 _ _ (0, 0) HRM6.out.z
      have HB56 := Lib.hid hb6
      clear g6 hb6
      go_wp2_with fail
      have hno := HNO
      have HOK := Lib.hid (hno.ok (by omega))
      have HSM := Lib.hid hno.small
      have hsp6 := HRM6.out.sp
      refine (ladd_none L a b y z1 z2 bb W.heap.size sp w6 hsp6 HG6.out HOK.out HSM.out (by have := hno.ha; omega) (by have := hno.hb; omega) (by have := hno.hy; omega) (by omega)).mono ?_
      rintro e w7 ⟨rfl, _, k, hk7, gk, gb, hg7⟩
      have hb57 : Below w5.heap.size w5 w7 := HB56.out.grown hg7 HB56.out.size (fun j hj => by injection hj with hj; omega)
      have HRM7 := Lib.hid (HRM5.out.below hb57)
      have HB7 := Lib.hid (HB5.out.trans (hb57.mono HB5.out.size))
      have hnw := now_some (begQ L a b y z1 z2) bb k _ _ _ _ w7 gb gk
      unfold NowPost at hnw
      have hfst := soLn_first (wd := z1) (h := z2) HOK.out.1 (show -far ≤ y by have := hno.hy; unfold far; omega) (show -far ≤ a by have := hno.ha; unfold far; omega) (show b ≤ far by have := hno.hb; unfold far; omega)
      have hti := topQ_in (L := L) (a := a) (b := b) (wd := z1) (ht := z2) HSM.out (y := y) (by have := hno.hy; omega)
      unfold begQ lnqC at hnw
      simp only at hnw
      obtain ⟨T, hT⟩ : ∃ T, topQ L a b y z1 z2 = T := ⟨_, rfl⟩
      rw [hT] at hnw hfst hti
      obtain ⟨⟨f1, f2⟩, hf⟩ : ∃ p, freeS L a b T z2 = p := ⟨_, rfl⟩
      rw [hf] at hnw
      simp only at hnw
      have HNW := Lib.hid hnw
      have HFST := Lib.hid hfst
      clear hnw hfst gk gb hg7 hb57 z60 z61 hsp6 hf hT
      go_wp2_with fail
      refine HNW.out.mono ?_
      rintro e w8 ⟨rfl, hb8⟩
      have HRM8 := Lib.hid (HRM7.out.below hb8)
      have HB8 := Lib.hid (HB7.out.trans (hb8.mono HB7.out.size))
      clear hb8
      have hb9 := (Below.refl w8.heap.size w8).alloc (Nat.le_refl _) (.cells #[.int .i64 f1, .int .i64 T, .int .i64 f2, .int .i64 (T + z2), .int .i64 1, .int .i64 z1] 65)
      have g9 := heap_alloc_new w8 (.cells #[.int .i64 f1, .int .i64 T, .int .i64 f2, .int .i64 (T + z2), .int .i64 1, .int .i64 z1] 65)
      obtain ⟨w9, hw9⟩ : ∃ w9, w8.alloc (.cells #[.int .i64 f1, .int .i64 T, .int .i64 f2, .int .i64 (T + z2), .int .i64 1, .int .i64 z1] 65) = w9 := ⟨_, rfl⟩
      obtain ⟨kq, hkq⟩ : ∃ k, w8.heap.size = k := ⟨_, rfl⟩
      have HRM9 := Lib.hid (HRM8.out.below hb9)
      have hB9 := HB8.out.trans (hb9.mono HB8.out.size)
      have z80 : w8.cell? ⟨bf + 1 + 1, 0, none⟩ = some (.int .i64 z1) := cell_of_row w8 (bf + 1 + 1) 0 _ _ (0, 0) HRM8.out.z
      have z8l := lt_of HRM8.out.z
      have hyt : ¬ T < y := by have := HFST.out.1; omega
      rw [hw9] at HRM9 hB9 g9
      rw [hkq] at g9
      have HB9 := Lib.hid hB9
      have HG9 := Lib.hid (show w9.heap[kq]? = some (.cells (lnqC ⟨f1, T, f2, T + z2, 1, z1⟩).toArray 65 (0, 0)) from g9)
      have HW9 := Lib.hid hw9
      have HKQ := Lib.hid hkq
      clear hb9 g9 hw9 hkq hB9
      go_wp2_with (first
        | ((with_reducible refine store_new (dst := none) 65 (.tmp 14) (.tmp 54) w8 _ #[.int .i64 f1, .int .i64 T, .int .i64 f2, .int .i64 (T + z2), .int .i64 1, .int .i64 z1] 65 rfl ?_ ?_ ?_ ?_ ?_ ?_); rfl; rfl; exact lineInfo; rfl; (simp [Value.oneCell'])))
      rw [HW9.out]
      (try rw [HKQ.out])
      (try simp only [Act.put, List.setIfInBounds_toArray, List.set_cons_zero, List.set_cons_succ])
      have hno := HNO
      have hy100 : IntKind.i64.wrap (y + 100) = y + 100 := by have := hno.hy; rw [IntKind.wrap_i64]; omega
      go_loopw [17] (fun x wr => ∃ k : Nat, k ≤ 100 ∧ y + k ≤ T ∧ x = .int .i64 (y + k) ∧ Hid (Below w9.heap.size w9 wr)) (fun x _ => 100 - (intOf x - y).toNat)
      case atStart => exact ⟨0, by omega, by omega, by simp, Lib.hid (Below.refl _ _)⟩
      case round =>
        obtain ⟨k, hk1, hk2, rfl, hI⟩ := hrel
        obtain ⟨e0, e1, e2, e3, e4, e5⟩ := lq6 HG9.out hI.out
        simp only at e0 e1 e2 e3 e4 e5
        obtain ⟨N, hN⟩ : ∃ N, min T (y + 100) = N := ⟨_, rfl⟩
        have hmn : (if y + 100 < T then y + 100 else T) = N := by rw [← hN]; split <;> omega
        have hcf := cf_room
        by_cases hlt : y + k < N
        · have hso : soLn L a b z1 z2 (y + k) = false := by
            cases e : soLn L a b z1 z2 (y + k) with
            | false => rfl
            | true => have := HFST.out.2.2 (y + k) (by omega) e; omega
          have hrc := room_any L a b z1 z2 (y + k) _ _ _ _ _ _ _ wr (HRM9.out.below hI.out) HOK.out HSM.out (by have := hno.ha; omega) (by have := hno.hb; omega) (by have := hno.hy; omega) (by omega)
          rw [hso] at hrc
          have HRC := Lib.hid hrc
          have hw17 : IntKind.i64.wrap (y + k + 1) = y + k + 1 := by have := hno.hy; rw [IntKind.wrap_i64]; omega
          clear hrc hso
          go_wp2_with (first
            | (at_builtin; refine op_value (by rfl) (.int .i64 N) (by simp [execOp, go_sem, hmn]) ?_))
          refine HRC.out.mono ?_
          rintro e w10 ⟨rfl, hb10⟩
          have HI2 := Lib.hid (hI.out.trans (hb10.mono hI.out.size))
          clear hb10
          go_wp2_with fail
          go_roundw
          case rel => exact ⟨k + 1, by omega, by push_cast; omega, by congr 1; push_cast; omega, HI2⟩
          case measure => simp [intOf]; omega
        · have hso := HFST.out.2.1
          have hrc := room_any L a b z1 z2 T _ _ _ _ _ _ _ wr (HRM9.out.below hI.out) HOK.out HSM.out (by have := hno.ha; omega) (by have := hno.hb; omega) (by omega) (by omega)
          rw [hso] at hrc
          have HRC := Lib.hid hrc
          clear hrc hso
          go_wp2_with (first
            | (at_builtin; refine op_value (by rfl) (.int .i64 N) (by simp [execOp, go_sem, hmn]) ?_))
          refine HRC.out.mono ?_
          rintro e w10 ⟨rfl, hb10⟩
          have HI2 := Lib.hid (HB9.out.trans ((hI.out.trans (hb10.mono hI.out.size)).mono HB9.out.size))
          clear hb10
          go_wp2_with fail
          go_ret
          exact ⟨rfl, HI2.out⟩
  · refine (begin13_no v0 L a b y W HF.out hL0 hnr).mono ?_
    rintro e w1 ⟨rfl, hb1⟩
    have hbn := (Below.refl w1.heap.size w1).alloc (Nat.le_refl _) (.cells #[.pointer none] 34)
    have gs := heap_alloc_new w1 (.cells #[.pointer none] 34)
    obtain ⟨bs, hbs⟩ : ∃ k, w1.heap.size = k := ⟨_, rfl⟩
    obtain ⟨w2, hw2⟩ : ∃ w2, w1.alloc (.cells #[.pointer none] 34) = w2 := ⟨_, rfl⟩
    have hB2 := hb1.trans (hbn.mono hb1.size)
    rw [hw2] at hB2 gs
    rw [hbs] at gs
    have HB2 := Lib.hid hB2
    have HG2 := Lib.hid gs
    have HW2 := Lib.hid hw2
    have HBS := Lib.hid hbs
    clear hb1 hbn hbs hw2 hB2 gs
    go_wp2_with fail
    rw [HW2.out, HBS.out]
    refine (speaks13_any w2).mono ?_
    rintro e w3 ⟨rfl, hb3⟩
    have HB3 := Lib.hid (HB2.out.trans (hb3.mono HB2.out.size))
    have HG3 := Lib.hid (blk_keep HG2.out hb3)
    clear hb3
    have s3 : w3.cell? ⟨bs, 0, none⟩ = some (.pointer none) := cell_of_row w3 bs 0 _ _ (0, 0) HG3.out
    go_wp2_with fail
    refine (speaks13_any w3).mono ?_
    rintro e w4 ⟨rfl, hb4⟩
    have HB4 := Lib.hid (HB0.out.trans ((HB3.out.trans (hb4.mono HB3.out.size)).mono HB0.out.size))
    clear hb4
    go_wp2_with fail
    go_ret
    exact ⟨rfl, HB4.out⟩
end Go.Proofs.Ytecojcdmigmnhaa
