/- Law LineGreedy: its walk. (Begun by wip/gen_line.py.) -/
import Derived.Test.YtecojcdmigmnhaaLr
namespace Go.Proofs.Ytecojcdmigmnhaa
set_option linter.unusedSimpArgs false
set_option linter.unusedVariables false
open Go.RowKit
set_option maxRecDepth 20000 in
set_option maxHeartbeats 4000000 in
theorem lineGreedy_any (L : List Fo) (a b y : Int) (v0 v : Value) (zs : List (Int × Int)) (w : World) (h0 : IsFos w v0 L) (hL0 : L.length ≤ maxLen) (h : IsSl szC 2 w v zs) (hL : zs.length ≤ maxLen) : Calls Try.prog 6 #[v0, .int .i64 a, .int .i64 b, .int .i64 y, v] w fun e w' => e = .returned (.bool true) ∧ Below w.heap.size w w' := by
  have h1 := h
  obtain ⟨A, cap, rfl, hc, HA⟩ := h
  have HCAP := Lib.hid hc
  have HH := Lib.hid h1
  have HF := Lib.hid h0
  clear h1 hc h0
  by_cases hnr : near13 L a b y = true ∧ (L.length : Int) ≤ 20
  · have HBG := Lib.hid (begin13_yes v0 L a b y w HF.out hnr.1 hnr.2)
    have HNO := near13_of hnr.1
    have HL20 := hnr.2
    clear hnr
    go_enter Try.func6, Try.ntmps6
    go_wp2_with fail
    refine HBG.out.mono ?_
    rintro e w1 ⟨sp, rfl, hs1, hb1⟩
    have HS1 := Lib.hid hs1
    have HB1 := Lib.hid hb1
    clear hs1 hb1
    go_wp2_with fail
    refine (speaks13_any w1).mono ?_
    rintro e w2 ⟨rfl, hb2⟩
    have HS2 := Lib.hid (HS1.out.below hb2 (Nat.le_refl _))
    have HB2 := Lib.hid (HB1.out.trans (hb2.mono HB1.out.size))
    clear hb2
    by_cases h40 : (40 : Int) < zs.length
    · go_wp2_with fail
      refine (speaks13_any w2).mono ?_
      rintro e w3 ⟨rfl, hb3⟩
      have HB3 := Lib.hid (HB2.out.trans (hb3.mono HB2.out.size))
      clear hb3
      go_wp2_with fail
      go_ret
      exact ⟨rfl, HB3.out⟩
    have HR := Lib.hid (right13_any (.slice A zs.length cap) zs w2 (HH.out.below HB2.out (Nat.le_refl _)) hL)
    cases hrt : zs.all szB with
    | false =>
      rw [hrt] at HR
      go_wp2_with fail
      refine HR.out.mono ?_
      rintro e w3 ⟨rfl, rfl⟩
      go_wp2_with fail
      refine (speaks13_any w2).mono ?_
      rintro e w3 ⟨rfl, hb3⟩
      have HB3 := Lib.hid (HB2.out.trans (hb3.mono HB2.out.size))
      clear hb3
      go_wp2_with fail
      go_ret
      exact ⟨rfl, HB3.out⟩
    | true =>
      rw [hrt] at HR
      have HZ := Lib.hid (show ∀ z ∈ zs, szOk z from fun z hz => szB_ok (List.all_eq_true.1 hrt z hz))
      clear hrt
      go_wp2_with fail
      refine HR.out.mono ?_
      rintro e w3 ⟨rfl, rfl⟩
      go_wp2_with fail
      refine (of13_any (.slice A zs.length cap) zs w2 (HH.out.below HB2.out (Nat.le_refl _)) (by omega)).mono ?_
      rintro e w3 ⟨v3, rfl, ho3, hb3⟩
      have HV3 := Lib.hid (ho3.is szC_len (by decide))
      have HS3 := Lib.hid (HS2.out.below hb3 (Nat.le_refl _))
      have HB3 := Lib.hid (HB2.out.trans (hb3.mono HB2.out.size))
      clear ho3 hb3
      go_wp2_with fail
      have hno := HNO
      have HOK := Lib.hid (hno.ok (by omega))
      have HSM := Lib.hid hno.small
      have HTP := Lib.hid hno.tops
      refine (all_any13 L 140737488355328 a b y zs v3 w.heap.size sp w3 HS3.out HV3.out HZ.out (by omega) HOK.out HSM.out HTP.out (by decide) (by have := hno.ha; omega) (by have := hno.hb; omega) (by have := hno.hy; omega)).mono ?_
      rintro e w4 ⟨v4, rfl, ho4, hb4⟩
      obtain ⟨lines, hln⟩ : ∃ l, lnAll L a b y zs = l := ⟨_, rfl⟩
      rw [hln] at ho4
      have HB4 := Lib.hid (HB3.out.trans (hb4.mono HB3.out.size))
      have HS4 := Lib.hid (HS3.out.below hb4 (Nat.le_refl _))
      have hlm := ho4.max
      obtain ⟨A4, cap4, rfl, hc4, HA4⟩ := ho4.is lnqC_len (by decide)
      have HL0 : Hid (LgI L a b zs lines w4 0 0 y w4) := Lib.hid ⟨by rw [List.drop_zero, List.drop_zero, hln], Nat.zero_le _, by have := hno.hy; omega, Below.refl _ _⟩
      clear ho4 hb4 hc4 hno
      go_wp2_with fail
      go_loopw [48, 12] (fun x dn wr => ∃ (i done : Nat) (yi : Int), i ≤ lines.length ∧ x = .int .i64 i ∧ dn = .int .i64 done ∧ Hid (LgI L a b zs lines w4 i done yi wr)) (fun x _ _ => lines.length - (intOf x).toNat)
      case atStart => exact ⟨0, 0, y, by omega, rfl, rfl, HL0⟩
      case round =>
        obtain ⟨i, done, yi, hi, rfl, rfl, hI⟩ := hrel
        clear HL0
        obtain ⟨d1, d2, ⟨d3, d4⟩, d5⟩ := hI.out
        by_cases hlt : i < lines.length
        · obtain ⟨n, n1, n2, hlp, hpl, hnx, hdrop⟩ := line_at HZ.out d2 d1 hlt
          obtain ⟨g, o, rfl, hg, hs⟩ := HA.out (by omega)
          obtain ⟨g4, o4, rfl, hg4, hs4⟩ := HA4.out (by omega)
          have hcq : wr.rangeAt g4 (o4 + i * 6) (lnqC lines[i]) := fun j v hv => (d5.cell (p := ⟨g4, o4 + i * 6 + j, none⟩) hg4).trans (hs4 i hlt j v hv)
          have hpz : ∀ z ∈ (zs.drop done).take n, szOk z := fun z hz => HZ.out z (List.mem_of_mem_drop (List.mem_of_mem_take hz))
          have hqi := line_in (k := done) hlp HSM.out HTP.out hpz ⟨d3, d4⟩ (by omega)
          rw [hpl] at hqi
          obtain ⟨hq1, hq2, hq3⟩ := hqi
          have HLP := Lib.hid hlp
          have hqn : lines[i].n = n := by rw [hlp.hn, hpl]
          have hqd := hlp.hd
          have hqb := hlp.hb
          generalize lines[i] = q at *
          obtain ⟨ql, qt, qr, qb, qn, qd⟩ := q
          obtain ⟨H, hH⟩ : ∃ H, highL ((zs.drop done).take n) = H := ⟨_, rfl⟩
          obtain ⟨D, hD⟩ : ∃ D, wideL ((zs.drop done).take n) = D := ⟨_, rfl⟩
          rw [hH] at hqb hq2
          rw [hD] at hqd hq3
          have HHI := Lib.hid hH
          have HDE := Lib.hid hD
          simp only at hqn hqd hqb hq1 hdrop
          subst hqn
          have hqd := hqd.symm
          subst hqd
          subst hqb
          obtain ⟨u0, u1, u2, u3, u4, u5⟩ := lq_cells hcq
          simp only at u0 u1 u2 u3 u4 u5
          have hg4l : g4 < wr.heap.size := by have := d5.size; omega
          have hw42 := d5.size
          have hk1 : ¬ (n : Int) < 1 := by omega
          have hk2 : IntKind.i64.wrap ((done : Int) + (n : Int)) = ((done + n : Nat) : Int) := by rw [IntKind.wrap_i64]; omega
          have hk3 : ¬ (zs.length : Int) < ((done + n : Nat) : Int) := by omega
          have HNX := Lib.hid hnx
          have HDROP := Lib.hid hdrop
          have HD5 := Lib.hid d5
          have HS := Lib.hid (fun w' (e : Below wr.heap.size wr w') k (hk : k < zs.length) => sz_cells (w := w') (g := g) (o := o + k * 2) (fun j v hv => by
            have e1 := e.cell (p := ⟨g, o + k * 2 + j, none⟩) (show g < wr.heap.size by have := HB4.out.size; omega)
            have e2 := d5.cell (p := ⟨g, o + k * 2 + j, none⟩) (show g < w4.heap.size by have := HB4.out.size; omega)
            have e3 := HB4.out.cell (p := ⟨g, o + k * 2 + j, none⟩) hg
            exact e1.trans (e2.trans (e3.trans (hs k hk j v hv)))))
          have hcap := HCAP.out
          have hgz : g < wr.heap.size := by have := HB4.out.size; omega
          obtain ⟨wa, hwa⟩ : ∃ wa, wr.alloc (.cells #[.int .i64 ql, .int .i64 qt, .int .i64 qr, .int .i64 (qt + H), .int .i64 n, .int .i64 D] 65) = wa := ⟨_, rfl⟩
          have hba : Below wr.heap.size wr wa := by rw [← hwa]; exact (Below.refl _ _).alloc (Nat.le_refl _) _
          obtain ⟨pq, hpq⟩ : ∃ p, wr.heap.size = p := ⟨_, rfl⟩
          have hga : wa.heap[pq]? = some (.cells (lnqC ⟨ql, qt, qr, qt + H, n, D⟩).toArray 65 (0, 0)) := by rw [← hwa, ← hpq]; exact heap_alloc_new wr _
          have HWA := Lib.hid hwa
          have HBA := Lib.hid hba
          have HPQ := Lib.hid hpq
          have HGA := Lib.hid hga
          have HSA := Lib.hid ((HS4.out.below d5 (Nat.le_refl _)).below hba (Nat.le_refl _))
          clear hs hs4 hcq hpz hpl hH hD hI hnx hdrop d1 d5 hwa hba hpq hga hlp
          by_cases hh : done + n < zs.length
          · have hk6 : ¬ (zs.length : Int) ≤ ((done + n : Nat) : Int) := by omega
            have hk7 : (0 : Int) ≤ ((done + n : Nat) : Int) := by omega
            have hk8 : ((done + n : Nat) : Int) < (zs.length : Int) := by omega
            obtain ⟨c0, c1⟩ := HS.out wr (Below.refl _ _) (done + n) hh
            have hnx := HNX.out hh
            have hzk := HZ.out zs[done + n] (List.getElem_mem hh)
            generalize zs[done + n] = z at *
            obtain ⟨z1, z2⟩ := z
            obtain ⟨⟨za, zb⟩, zc, zd⟩ := hzk
            simp only at c0 c1 za zb zc zd hnx
            obtain ⟨V, hV⟩ : ∃ V, max (qt + H - qt) z2 = V := ⟨_, rfl⟩
            have hmx : (if qt + H - qt < z2 then z2 else qt + H - qt) = V := by rw [← hV]; split <;> omega
            have hV2 : V = max H z2 := by rw [← hV]; omega
            have hfq := of_decide_eq_false hnx
            unfold highQ at hfq
            simp only [hV] at hfq
            have HFQ := Lib.hid hfq
            have HV := Lib.hid hV2
            clear hnx hfq hV hV2
            go_wp2_with (first
              | (at_builtin; refine op_value (by rfl) (.int .i64 V) (by simp [execOp, go_sem, hmx]) ?_)
              | ((with_reducible refine store_new (dst := none) 65 (.tmp 14) (.tmp 51) wr _ #[.int .i64 ql, .int .i64 qt, .int .i64 qr, .int .i64 (qt + H), .int .i64 n, .int .i64 D] 65 rfl ?_ ?_ ?_ ?_ ?_ ?_); rfl; rfl; exact lineInfo; rfl; (simp [Value.oneCell']))
              | ((with_reducible refine store_new (dst := none) 67 (.tmp 15) (.tmp 68) _ _ #[.int .i64 z1, .int .i64 z2] 67 rfl ?_ ?_ ?_ ?_ ?_ ?_); rfl; rfl; exact rszInfo; rfl; (simp [Value.oneCell'])))
            obtain ⟨w5, hw5⟩ : ∃ w5, (wr.alloc (.cells #[.int .i64 ql, .int .i64 qt, .int .i64 qr, .int .i64 (qt + H), .int .i64 n, .int .i64 D] 65)).alloc (.cells #[.int .i64 z1, .int .i64 z2] 67) = w5 := ⟨_, rfl⟩
            have hzw : wa.heap.size = wr.heap.size + 1 := by rw [← HWA.out]; simp
            rw [HWA.out] at hw5 ⊢
            have hb5 : Below wa.heap.size wa w5 := by rw [← hw5]; exact (Below.refl _ _).alloc (Nat.le_refl _) _
            have g5 : w5.heap[wr.heap.size + 1]? = some (.cells #[.int .i64 z1, .int .i64 z2] 67 (0, 0)) := by rw [← hw5, ← hzw]; exact heap_alloc_new wa _
            rw [hw5]
            have HG5 := Lib.hid (blk_keep HGA.out hb5)
            have HZ5 := Lib.hid g5
            have HS5 := Lib.hid (HSA.out.below hb5 (Nat.le_refl _))
            have HB5 := Lib.hid (HD5.out.trans ((HBA.out.trans (hb5.mono HBA.out.size)).mono HD5.out.size))
            have hgp := hgh_pos V
            have hgm : hgh V ≤ 2147483649 := by have := HV.out; unfold hgh; omega
            have hq0 := HNO
            have hed := bnds_edge HSM.out qt V
            have hfq := HFQ.out
            unfold freeS bnds at hfq
            unfold bnds at hed
            clear hb5 g5 hw5 hmx
            refine (srows_any qt V w5 (by omega) (by have := HV.out; omega)).mono ?_
            unfold SpanPost
            rintro e w6 ⟨rfl, hb6⟩
            have HG6 := Lib.hid (blk_keep HG5.out hb6)
            have HZ6 := Lib.hid (blk_keep HZ5.out hb6)
            have HS6 := Lib.hid (HS5.out.below hb6 (Nat.le_refl _))
            have HB6 := Lib.hid (HB5.out.trans (hb6.mono HB5.out.size))
            have hfr := free_any L a b qt (qt + hgh V) w.heap.size sp w6 HS6.out HOK.out (by unfold Mid; omega) (by unfold Mid; omega) (by unfold far; omega)
            unfold SpanPost at hfr
            obtain ⟨⟨p1, p2⟩, hp⟩ : ∃ p, band L qt (qt + hgh V) = p := ⟨_, rfl⟩
            rw [hp] at hfr hed hfq
            simp only at hfr hed hfq
            unfold far at hed
            obtain ⟨r1, hr1⟩ : ∃ r, max a p1 = r := ⟨_, rfl⟩
            obtain ⟨r2, hr2⟩ : ∃ r, min b p2 = r := ⟨_, rfl⟩
            rw [hr1, hr2] at hfr hfq
            have hm1 : Mid r1 ∧ Mid r2 := by have := HNO.ha; have := HNO.hb; unfold Mid; omega
            have HFR := Lib.hid hfr
            have HM := Lib.hid hm1
            have HFQ2 := Lib.hid hfq
            clear hb6 hfr hed hfq hp hr1 hr2 hm1 hgp hgm hq0
            go_wp2_with fail
            refine HFR.out.mono ?_
            rintro e w7 ⟨rfl, hb7⟩
            have HG7 := Lib.hid (blk_keep HG6.out hb7)
            have HZ7 := Lib.hid (blk_keep HZ6.out hb7)
            have HB7 := Lib.hid (HB6.out.trans (hb7.mono HB6.out.size))
            clear hb7
            go_wp2_with (first
              | ((with_reducible refine store_new (dst := none) 61 (.tmp 16) (.tmp 87) w7 _ #[.int .i64 r1, .int .i64 r2] 61 rfl ?_ ?_ ?_ ?_ ?_ ?_); rfl; rfl; exact spanInfo; rfl; (simp [Value.oneCell'])))
            have hb8 := (Below.refl w7.heap.size w7).alloc (Nat.le_refl _) (.cells #[.int .i64 r1, .int .i64 r2] 61)
            have g8 := heap_alloc_new w7 (.cells #[.int .i64 r1, .int .i64 r2] 61)
            obtain ⟨w8, hw8⟩ : ∃ w8, w7.alloc (.cells #[.int .i64 r1, .int .i64 r2] 61) = w8 := ⟨_, rfl⟩
            obtain ⟨k7, hk7⟩ : ∃ k, w7.heap.size = k := ⟨_, rfl⟩
            rw [hw8] at hb8 g8 ⊢
            rw [hk7] at g8 ⊢
            have HB8 := Lib.hid (HB7.out.trans (hb8.mono HB7.out.size))
            obtain ⟨kz, hkz⟩ : ∃ k, wr.heap.size + 1 = k := ⟨_, rfl⟩
            have HKZ := Lib.hid hkz
            have gz8 := blk_keep HZ7.out hb8
            have gg8 := blk_keep HG7.out hb8
            rw [hkz] at gz8
            (try rw [hkz])
            (try rw [HPQ.out])
            have HK : Hid (∀ w', Below w8.heap.size w8 w' → w'.cell? ⟨pq, 5, none⟩ = some (.int .i64 D) ∧ w'.cell? ⟨kz, 0, none⟩ = some (.int .i64 z1) ∧ w'.cell? ⟨k7, 0, none⟩ = some (.int .i64 r1) ∧ w'.cell? ⟨k7, 1, none⟩ = some (.int .i64 r2)) := Lib.hid fun w' e =>
              ⟨(lq6 gg8 e).2.2.2.2.2, cell_of_row w' kz 0 _ _ (0, 0) (blk_keep gz8 e), cell_of_row w' k7 0 _ _ (0, 0) (blk_keep g8 e), cell_of_row w' k7 1 _ _ (0, 0) (blk_keep g8 e)⟩
            have hsum : IntKind.i64.wrap (D + z1) = D + z1 := by rw [IntKind.wrap_i64]; omega
            clear hb8 g8 hw8 gz8 gg8 hk7 hkz
            (refine wp_region_laid_l (by kernel_rfl) [] 8 (by kernel_rfl) (by kernel_rfl) ?_; (repeat (first | (refine wpLex_laid (by rfl) ?_) | (refine wpLex_no (by rfl) (by rfl) ?_; go_simp) | (refine wpLex_val (by rfl) (by rfl) _ (by intro wq hq; have hSw := HK.out wq hq; (try dsimp only at hSw); go_simp; rfl) ?_; go_simp) | (refine wpLex_call (by rfl) (by rfl) _ _ (by intro wq hq; have hSw := HK.out wq hq; (try dsimp only at hSw); go_simp; exact ⟨rfl, rfl⟩) _ (by intro wq hq; have hSw := HK.out wq hq; (try dsimp only at hSw); first | (go_at_call 35; exact (slen_any r1 r2 wq HM.out.1 HM.out.2))) ?_; go_simp))); refine wpLex_zero ?_)
            refine lend_none fun w9 hb9 => ?_
            have HB9 := Lib.hid (HB8.out.trans (hb9.mono HB8.out.size))
            have hfq := HFQ2.out
            clear hb9
            go_wp2_with fail
            go_roundw
            case rel => exact ⟨i + 1, done + n, qt + H, by omega, by go_num, by go_num, Lib.hid ⟨HDROP.out, n2, ⟨by omega, by push_cast; omega⟩, HB9.out⟩⟩
            case measure => simp [intOf]; omega
          · have hdn : done + n = zs.length := by omega
            have hk6 : (zs.length : Int) ≤ ((done + n : Nat) : Int) := by omega
            have HBE := Lib.hid (HB4.out.trans ((HD5.out.trans (HBA.out.mono HD5.out.size)).mono HB4.out.size))
            go_wp2_with (first
              | ((with_reducible refine store_new (dst := none) 65 (.tmp 14) (.tmp 51) wr _ #[.int .i64 ql, .int .i64 qt, .int .i64 qr, .int .i64 (qt + H), .int .i64 n, .int .i64 D] 65 rfl ?_ ?_ ?_ ?_ ?_ ?_); rfl; rfl; exact lineInfo; rfl; (simp [Value.oneCell'])))
            rw [HWA.out]
            go_ret
            exact ⟨by first | rfl | (simp; omega), HBE.out⟩
        · have hdn := line_end HZ.out d2 d1 (by omega)
          subst hdn
          have HBE := Lib.hid (HB4.out.trans (d5.mono HB4.out.size))
          clear d1 d5 hI
          have hir : i = lines.length := by omega
          subst hir
          go_wp2_with fail
          go_ret
          exact ⟨by first | rfl | simp, HBE.out⟩

  · have HBG := Lib.hid (begin13_no v0 L a b y w HF.out hL0 hnr)
    clear hnr
    go_enter Try.func6, Try.ntmps6
    go_wp2_with fail
    refine HBG.out.mono ?_
    rintro e w1 ⟨rfl, hb1⟩
    have HB1 := Lib.hid hb1
    clear hb1
    go_wp2_with fail
    refine (speaks13_any w1).mono ?_
    rintro e w2 ⟨rfl, hb2⟩
    have HB2 := Lib.hid (HB1.out.trans (hb2.mono HB1.out.size))
    clear hb2
    go_wp2_with fail
    refine (speaks13_any w2).mono ?_
    rintro e w3 ⟨rfl, hb3⟩
    have HB3 := Lib.hid (HB2.out.trans (hb3.mono HB2.out.size))
    clear hb3
    go_wp2_with fail
    go_ret
    exact ⟨rfl, HB3.out⟩
end Go.Proofs.Ytecojcdmigmnhaa
