/- Law LineApart: its walk. (Begun by wip/gen_line.py.) -/
import Derived.Test.YtecojcdmigmnhaaLw
import Derived.Test.YtecojcdmigmnhaaLq5
namespace Go.Proofs.Ytecojcdmigmnhaa
set_option linter.unusedSimpArgs false
set_option linter.unusedVariables false
open Go.RowKit
set_option maxRecDepth 20000 in
set_option maxHeartbeats 4000000 in
theorem lineApart_any (L : List Fo) (a b y : Int) (v0 v : Value) (zs : List (Int × Int)) (w : World) (h0 : IsFos w v0 L) (hL0 : L.length ≤ maxLen) (h : IsSl szC 2 w v zs) (hL : zs.length ≤ maxLen) : Calls Try.prog 11 #[v0, .int .i64 a, .int .i64 b, .int .i64 y, v] w fun e w' => e = .returned (.bool true) ∧ Below w.heap.size w w' := by
  have h1 := h
  obtain ⟨A, cap, rfl, hc, HA⟩ := h
  have HCAP := Lib.hid hc
  have HH := Lib.hid h1
  have HF := Lib.hid h0
  clear h1 hc h0
  by_cases hnr : near13 L a b y = true ∧ (L.length : Int) ≤ 20
  · have HBG := Lib.hid (begin13_yes v0 L a b y w HF.out hnr.1 hnr.2)
    have HNO := near13_of hnr.1
    have HL20 := hnr.2
    clear hnr
    go_enter Try.func11, Try.ntmps11
    go_wp2_with fail
    refine HBG.out.mono ?_
    rintro e w1 ⟨sp, rfl, hs1, hb1⟩
    have HS1 := Lib.hid hs1
    have HB1 := Lib.hid hb1
    clear hs1 hb1
    go_wp2_with fail
    refine (speaks13_any w1).mono ?_
    rintro e w2 ⟨rfl, hb2⟩
    have HS2 := Lib.hid (HS1.out.below hb2 (Nat.le_refl _))
    have HB2 := Lib.hid (HB1.out.trans (hb2.mono HB1.out.size))
    clear hb2
    by_cases h40 : (40 : Int) < zs.length
    · go_wp2_with fail
      refine (speaks13_any w2).mono ?_
      rintro e w3 ⟨rfl, hb3⟩
      have HB3 := Lib.hid (HB2.out.trans (hb3.mono HB2.out.size))
      clear hb3
      go_wp2_with fail
      go_ret
      exact ⟨rfl, HB3.out⟩
    have HR := Lib.hid (right13_any (.slice A zs.length cap) zs w2 (HH.out.below HB2.out (Nat.le_refl _)) hL)
    cases hrt : zs.all szB with
    | false =>
      rw [hrt] at HR
      go_wp2_with fail
      refine HR.out.mono ?_
      rintro e w3 ⟨rfl, rfl⟩
      go_wp2_with fail
      refine (speaks13_any w2).mono ?_
      rintro e w3 ⟨rfl, hb3⟩
      have HB3 := Lib.hid (HB2.out.trans (hb3.mono HB2.out.size))
      clear hb3
      go_wp2_with fail
      go_ret
      exact ⟨rfl, HB3.out⟩
    | true =>
      rw [hrt] at HR
      have HZ := Lib.hid (show ∀ z ∈ zs, szOk z from fun z hz => szB_ok (List.all_eq_true.1 hrt z hz))
      clear hrt
      go_wp2_with fail
      refine HR.out.mono ?_
      rintro e w3 ⟨rfl, rfl⟩
      go_wp2_with fail
      refine (of13_any (.slice A zs.length cap) zs w2 (HH.out.below HB2.out (Nat.le_refl _)) (by omega)).mono ?_
      rintro e w3 ⟨v3, rfl, ho3, hb3⟩
      have HV3 := Lib.hid (ho3.is szC_len (by decide))
      have HS3 := Lib.hid (HS2.out.below hb3 (Nat.le_refl _))
      have HB3 := Lib.hid (HB2.out.trans (hb3.mono HB2.out.size))
      clear ho3 hb3
      go_wp2_with fail
      have hno := HNO
      have HOK := Lib.hid (hno.ok (by omega))
      have HSM := Lib.hid hno.small
      have HTP := Lib.hid hno.tops
      refine (all_any13 L 140737488355328 a b y zs v3 w.heap.size sp w3 HS3.out HV3.out HZ.out (by omega) HOK.out HSM.out HTP.out (by decide) (by have := hno.ha; omega) (by have := hno.hb; omega) (by have := hno.hy; omega)).mono ?_
      rintro e w4 ⟨v4, rfl, ho4, hb4⟩
      obtain ⟨lines, hln⟩ : ∃ l, lnAll L a b y zs = l := ⟨_, rfl⟩
      rw [hln] at ho4
      have HB4 := Lib.hid (HB3.out.trans (hb4.mono HB3.out.size))
      have HS4 := Lib.hid (HS3.out.below hb4 (Nat.le_refl _))
      have hlm := ho4.max
      obtain ⟨A4, cap4, rfl, hc4, HA4⟩ := ho4.is lnqC_len (by decide)
      have HL0 : Hid (LgI L a b zs lines w4 0 0 y w4) := Lib.hid ⟨by rw [List.drop_zero, List.drop_zero, hln], Nat.zero_le _, by have := hno.hy; omega, Below.refl _ _⟩
      clear ho4 hb4 hc4 hno
      go_wp2_with fail
      go_loopw [49, 12, 3] (fun x dn yy wr => ∃ (i done : Nat) (yi : Int), i ≤ lines.length ∧ x = .int .i64 i ∧ dn = .int .i64 done ∧ yy = .int .i64 yi ∧ Hid (LgI L a b zs lines w4 i done yi wr)) (fun x _ _ _ => lines.length - (intOf x).toNat)
      case atStart => exact ⟨0, 0, y, by omega, rfl, rfl, rfl, HL0⟩
      case round =>
        obtain ⟨i, done, yi, hi, rfl, rfl, rfl, hI⟩ := hrel
        clear HL0
        obtain ⟨d1, d2, ⟨d3, d4⟩, d5⟩ := hI.out
        by_cases hlt : i < lines.length
        · obtain ⟨n, n1, n2, hlp, hpl, hnx, hdrop⟩ := line_at HZ.out d2 d1 hlt
          obtain ⟨g, o, rfl, hg, hs⟩ := HA.out (by omega)
          obtain ⟨g4, o4, rfl, hg4, hs4⟩ := HA4.out (by omega)
          have hcq : wr.rangeAt g4 (o4 + i * 6) (lnqC lines[i]) := fun j v hv => (d5.cell (p := ⟨g4, o4 + i * 6 + j, none⟩) hg4).trans (hs4 i hlt j v hv)
          have hpz : ∀ z ∈ (zs.drop done).take n, szOk z := fun z hz => HZ.out z (List.mem_of_mem_drop (List.mem_of_mem_take hz))
          have hqi := line_in (k := done) hlp HSM.out HTP.out hpz ⟨d3, d4⟩ (by omega)
          rw [hpl] at hqi
          obtain ⟨hq1, hq2, hq3⟩ := hqi
          have HLP := Lib.hid hlp
          have hso : ∀ z r, (zs.drop done).take n = z :: r → yi ≤ lines[i].t ∧ soLn L a b z.1 z.2 lines[i].t = true := fun z r e => by
            have hf := soLn_first (wd := z.1) (h := z.2) HOK.out.1 (show -far ≤ yi by unfold far; omega) (show -far ≤ a by have := HNO.ha; unfold far; omega) (show b ≤ far by have := HNO.hb; unfold far; omega)
            rw [hlp.ht z r e]
            exact ⟨hf.1, hf.2.1⟩
          have hyt : yi ≤ lines[i].t := by
            cases e : (zs.drop done).take n with
            | nil => rw [e] at hpl; simp at hpl; omega
            | cons z r => exact (hso z r e).1
          have hwide := fun h => wideLn hlp (fun z r e => (hso z r e).2) h hpz
          have hbox := hlp.box
          have hpsl := isSl_part (i := done) (n := n) (v := .slice (some ⟨g, o, none⟩) zs.length cap) HH.out n2 rfl
          clear hso
          have hqn : lines[i].n = n := by rw [hlp.hn, hpl]
          have hqd := hlp.hd
          have hqb := hlp.hb
          generalize lines[i] = q at *
          obtain ⟨ql, qt, qr, qb, qn, qd⟩ := q
          obtain ⟨H, hH⟩ : ∃ H, highL ((zs.drop done).take n) = H := ⟨_, rfl⟩
          obtain ⟨D, hD⟩ : ∃ D, wideL ((zs.drop done).take n) = D := ⟨_, rfl⟩
          rw [hH] at hqb hq2
          rw [hD] at hqd hq3
          have HHI := Lib.hid hH
          have HDE := Lib.hid hD
          simp only at hqn hqd hqb hq1 hdrop
          subst hqn
          have hqd := hqd.symm
          subst hqd
          subst hqb
          obtain ⟨u0, u1, u2, u3, u4, u5⟩ := lq_cells hcq
          simp only at u0 u1 u2 u3 u4 u5
          have hg4l : g4 < wr.heap.size := by have := d5.size; omega
          have hw42 := d5.size
          have hk1 : ¬ (n : Int) < 1 := by omega
          have hk2 : IntKind.i64.wrap ((done : Int) + (n : Int)) = ((done + n : Nat) : Int) := by rw [IntKind.wrap_i64]; omega
          have hk3 : ¬ (zs.length : Int) < ((done + n : Nat) : Int) := by omega
          have HNX := Lib.hid hnx
          have HDROP := Lib.hid hdrop
          have HD5 := Lib.hid d5
          have HS := Lib.hid (fun w' (e : Below wr.heap.size wr w') k (hk : k < zs.length) => sz_cells (w := w') (g := g) (o := o + k * 2) (fun j v hv => by
            have e1 := e.cell (p := ⟨g, o + k * 2 + j, none⟩) (show g < wr.heap.size by have := HB4.out.size; omega)
            have e2 := d5.cell (p := ⟨g, o + k * 2 + j, none⟩) (show g < w4.heap.size by have := HB4.out.size; omega)
            have e3 := HB4.out.cell (p := ⟨g, o + k * 2 + j, none⟩) hg
            exact e1.trans (e2.trans (e3.trans (hs k hk j v hv)))))
          have hcap := HCAP.out
          have hgz : g < wr.heap.size := by have := HB4.out.size; omega
          obtain ⟨wa, hwa⟩ : ∃ wa, wr.alloc (.cells #[.int .i64 ql, .int .i64 qt, .int .i64 qr, .int .i64 (qt + H), .int .i64 n, .int .i64 D] 65) = wa := ⟨_, rfl⟩
          have hba : Below wr.heap.size wr wa := by rw [← hwa]; exact (Below.refl _ _).alloc (Nat.le_refl _) _
          obtain ⟨pq, hpq⟩ : ∃ p, wr.heap.size = p := ⟨_, rfl⟩
          have hga : wa.heap[pq]? = some (.cells (lnqC ⟨ql, qt, qr, qt + H, n, D⟩).toArray 65 (0, 0)) := by rw [← hwa, ← hpq]; exact heap_alloc_new wr _
          have HWA := Lib.hid hwa
          have HBA := Lib.hid hba
          have HPQ := Lib.hid hpq
          have HGA := Lib.hid hga
          have HSA := Lib.hid ((HS4.out.below d5 (Nat.le_refl _)).below hba (Nat.le_refl _))
          clear hs hs4 hcq hpz hpl hH hD hI hnx hdrop d1 d5 hwa hba hpq hga hlp
          simp only at hyt hwide hbox
          have hy1 : ¬ qt < yi := by omega
          have hsb : IntKind.i64.wrap (qt + H - qt) = H := by rw [IntKind.wrap_i64]; omega
          have hsb2 : IntKind.i64.wrap (b - a) = b - a := by have := HNO.ha; have := HNO.hb; rw [IntKind.wrap_i64]; omega
          have hed := bnds_edge HSM.out qt H
          have hrl : -4503599627370496 ≤ ql ∧ ql ≤ 2251799813685248 ∧ -2251799813685248 ≤ qr ∧ qr ≤ 4503599627370496 := by
            have h1 := HLP.out.box
            rw [HHI.out] at h1
            simp only at h1
            unfold freeS at h1
            simp only at h1
            have := HNO.ha
            have := HNO.hb
            unfold far at hed
            omega
          have hsb3 : IntKind.i64.wrap (qr - ql) = qr - ql := by rw [IntKind.wrap_i64]; omega
          rw [HHI.out] at hbox
          have HMT : Hid (∀ k (h : k < L.length) w, Calls Try.prog 46 #[.agg #[.int .i64 (foAt L k).x0, .int .i64 (foAt L k).y0, .int .i64 (foAt L k).x1, .int .i64 (foAt L k).y1], .agg #[.int .i64 ql, .int .i64 qt, .int .i64 qr, .int .i64 (qt + H)]] w fun e w' => e = .returned (.bool false) ∧ Below w.heap.size w w') := Lib.hid fun k hk w => by
            have hf : foAt L k ∈ L := by rw [foAt_eq L k hk]; exact List.getElem_mem hk
            obtain ⟨n0, n1, n2, n3, n4⟩ := HNO.hf _ hf
            have hm := meet_any (foAt L k).x0 (foAt L k).y0 (foAt L k).x1 (foAt L k).y1 ql qt qr (qt + H) w (by unfold Mid; omega) (by unfold Mid; omega) (by unfold Mid; omega) (by unfold Mid; omega)
            have hap := apartLn (L := L) (a := a) (b := b) (t := qt) (H := H) hf n4
            rw [← hbox.1, ← hbox.2] at hap
            rw [hap] at hm
            exact hm
          obtain ⟨PT, hPT⟩ : ∃ l, (zs.drop done).take n = l := ⟨_, rfl⟩
          have HPZ := Lib.hid (show ∀ z ∈ PT, szOk z from fun z hz => by rw [← hPT] at hz; exact HZ.out z (List.mem_of_mem_drop (List.mem_of_mem_take hz)))
          have HPL := Lib.hid (show PT.length = n by rw [← hPT, List.length_take, List.length_drop]; omega)
          rw [hPT] at hpsl hwide HHI HDE
          have HBW := Lib.hid (fun w' (e : Below wr.heap.size wr w') => (HB4.out.trans ((HD5.out.trans (e.mono HD5.out.size)).mono HB4.out.size) : Below w.heap.size w w'))
          have HPS := Lib.hid (fun w' (e : Below wr.heap.size wr w') => hpsl.below (HBW.out w' e) (Nat.le_refl _))
          have HWD := Lib.hid (fun w' (e : Below wr.heap.size wr w') => by
            have h1 := wide13_any _ PT w' (HPS.out w' e) HPZ.out (by rw [HPL.out]; omega)
            rw [HDE.out] at h1
            exact h1.mono (R' := fun e w2 => e = .returned (.int .i64 D) ∧ Below w'.heap.size w' w2) (fun e w2 ⟨h1, h2⟩ => ⟨h1, by subst h2; exact Below.refl _ _⟩))
          have HHG := Lib.hid (fun w' (e : Below wr.heap.size wr w') => by
            have h1 := high13_any _ PT w' (HPS.out w' e) (by rw [HPL.out]; omega)
            rw [HHI.out] at h1
            exact h1.mono (R' := fun e w2 => e = .returned (.int .i64 H) ∧ Below w'.heap.size w' w2) (fun e w2 ⟨h1, h2⟩ => ⟨h1, by subst h2; exact Below.refl _ _⟩))
          have HKA : Hid (∀ w', Below wa.heap.size wa w' → w'.cell? ⟨pq, 0, none⟩ = some (.int .i64 ql) ∧ w'.cell? ⟨pq, 1, none⟩ = some (.int .i64 qt) ∧ w'.cell? ⟨pq, 2, none⟩ = some (.int .i64 qr) ∧ w'.cell? ⟨pq, 3, none⟩ = some (.int .i64 (qt + H)) ∧ w'.cell? ⟨pq, 4, none⟩ = some (.int .i64 n) ∧ w'.cell? ⟨pq, 5, none⟩ = some (.int .i64 D)) := Lib.hid fun w' e => lq6 HGA.out e
          have HRA := Lib.hid (fun w' (e : Below wa.heap.size wa w') => (HBA.out.trans (e.mono HBA.out.size) : Below wr.heap.size wr w'))
          clear hpsl hPT hed hbox
          go_wp2_with (first
            | ((with_reducible refine store_new (dst := none) 65 (.tmp 14) (.tmp 52) wr _ #[.int .i64 ql, .int .i64 qt, .int .i64 qr, .int .i64 (qt + H), .int .i64 n, .int .i64 D] 65 rfl ?_ ?_ ?_ ?_ ?_ ?_); rfl; rfl; exact lineInfo; rfl; (simp [Value.oneCell'])))
          rw [HWA.out]
          (try rw [HPQ.out])
          (try simp only [Act.put, List.setIfInBounds_toArray, List.set_cons_zero, List.set_cons_succ])
          (refine wp_region_laid_l (by kernel_rfl) [] 17 (by kernel_rfl) (by kernel_rfl) ?_; (repeat (first | (refine wpLex_laid (by rfl) ?_) | (refine wpLex_no (by rfl) (by rfl) ?_; go_simp) | (refine wpLex_val (by rfl) (by rfl) _ (by intro wq hq; have hSw := HKA.out wq hq; (try dsimp only at hSw); go_simp; rfl) ?_; go_simp) | (refine wpLex_call (by rfl) (by rfl) _ _ (by intro wq hq; have hSw := HKA.out wq hq; (try dsimp only at hSw); go_simp; exact ⟨rfl, rfl⟩) _ (by intro wq hq; have hSw := HKA.out wq hq; (try dsimp only at hSw); first | (go_at_call 50; exact (HWD.out wq (HRA.out wq hq))) | (go_at_call 51; exact (HHG.out wq (HRA.out wq hq)))) ?_; go_simp))); refine wpLex_zero ?_)
          refine lend_none fun wb hbb => ?_
          have HKB : Hid (∀ w', Below wb.heap.size wb w' → w'.cell? ⟨pq, 0, none⟩ = some (.int .i64 ql) ∧ w'.cell? ⟨pq, 1, none⟩ = some (.int .i64 qt) ∧ w'.cell? ⟨pq, 2, none⟩ = some (.int .i64 qr) ∧ w'.cell? ⟨pq, 3, none⟩ = some (.int .i64 (qt + H)) ∧ w'.cell? ⟨pq, 4, none⟩ = some (.int .i64 n) ∧ w'.cell? ⟨pq, 5, none⟩ = some (.int .i64 D)) := Lib.hid fun w' e => HKA.out w' (below_onto hbb e)
          have HBB := Lib.hid (show Below wa.heap.size wa wb from hbb)
          clear hbb
          go_wp2_with fail
          have hcase : (¬ qr - ql < D) ∨ (qr - ql < D ∧ ∃ z1 z2, PT = [(z1, z2)] ∧ ql = a ∧ qr = b ∧ b - a < z1 ∧ D = z1) := by
            by_cases hwd : qr - ql < D
            · obtain ⟨⟨z1, z2⟩, q1, q2, q3, q4, q5⟩ := hwide hwd
              exact .inr ⟨hwd, z1, z2, q1, q2, q3, q4, q5⟩
            · exact .inl hwd
          have HWB := Lib.hid (HRA.out wb HBB.out)
          clear hwide
          rcases hcase with hwd | ⟨hwd, z1, z2, q1, q2, q3, q4, q5⟩
          rotate_left
          · have hsl := HPS.out wb HWB.out
            rw [q1] at hsl
            have hn1 : n = 1 := by have := HPL.out; rw [q1] at this; simpa using this.symm
            subst hn1
            have hp0 := (isSl_at hsl 0 (by simp)).2
            have hgl := (isSl_at hsl 0 (by simp)).1
            have hc0 : wb.cell? ⟨g, o + done * 2, none⟩ = some (.int .i64 z1) := by have := hp0 0 _ rfl; simpa using this
            subst q2
            subst q3
            subst q5
            have HKC : Hid (∀ w', Below wb.heap.size wb w' → w'.cell? ⟨pq, 0, none⟩ = some (.int .i64 ql) ∧ w'.cell? ⟨pq, 1, none⟩ = some (.int .i64 qt) ∧ w'.cell? ⟨pq, 2, none⟩ = some (.int .i64 qr) ∧ w'.cell? ⟨pq, 5, none⟩ = some (.int .i64 D) ∧ w'.cell? ⟨g, o + done * 2, none⟩ = some (.int .i64 D)) := Lib.hid fun w' e => by
              obtain ⟨x0, x1, x2, x3, x4, x5⟩ := HKB.out w' e
              exact ⟨x0, x1, x2, x5, (e.cell (p := ⟨g, o + done * 2, none⟩) hgl).trans hc0⟩
            clear hsl hp0 hc0
            (refine wp_region_laid_l (by kernel_rfl) [] 44 (by kernel_rfl) (by kernel_rfl) ?_; (repeat (first | (refine wpLex_laid (by rfl) ?_) | (refine wpLex_no (by rfl) (by rfl) ?_; go_simp) | (refine wpLex_val (by rfl) (by rfl) _ (by intro wq hq; have hSw := HKC.out wq hq; (try dsimp only at hSw); go_simp; rfl) ?_; go_simp))); refine wpLex_zero ?_)
            refine lend_none fun wc hbc => ?_
            have HBC := Lib.hid (show Below wb.heap.size wb wc from hbc)
            clear hbc
            clear HKB hwd
            go_wp2_with fail
            have hwc : Below w.heap.size w wc := HBW.out wc (HRA.out wc (HBB.out.trans (HBC.out.mono HBB.out.size)))
            have hsc := HS4.out.below (HD5.out.trans ((HRA.out wc (HBB.out.trans (HBC.out.mono HBB.out.size))).mono HD5.out.size)) (Nat.le_refl _)
            have HEC := Lib.hid (lq6 HGA.out (HBB.out.trans (HBC.out.mono HBB.out.size)))
            have HWC := Lib.hid hwc
            refine (floats_any L w.heap.size sp wc hsc (by omega)).mono ?_
            unfold FloatsPost
            rintro e wf ⟨vf, rfl, hof, hbf⟩
            have HFL := Lib.hid (isFos_of_own hof rfl)
            have HBF := Lib.hid (HWC.out.trans (hbf.mono HWC.out.size))
            have HBF2 := Lib.hid (show Below wa.heap.size wa wf from (HBB.out.trans ((HBC.out.trans (hbf.mono HBC.out.size)).mono HBB.out.size)))
            obtain ⟨Af, capf, rfl, hcf, hAf⟩ := HFL.out
            have HAF := Lib.hid hAf
            clear hof hbf hwc hsc hcf hAf
            go_wp2_with fail
            go_loopw [147] (fun x wr => ∃ k : Nat, k ≤ L.length ∧ x = .int .i64 k ∧ Hid (Below wf.heap.size wf wr)) (fun x _ => L.length - (intOf x).toNat)
            case atStart => exact ⟨0, by omega, rfl, Lib.hid (Below.refl _ _)⟩
            case round =>
              obtain ⟨k, hk, rfl, hK⟩ := hrel
              by_cases hkl : k < L.length
              · obtain ⟨gf, of, rfl, hgf, hsf⟩ := HAF.out (by omega)
                have hcs : wr.rangeAt gf (of + k * 5) (foC (foAt L k)) := fun j v hv => (hK.out.cell (p := ⟨gf, of + k * 5 + j, none⟩) hgf).trans (hsf k hkl j v hv)
                obtain ⟨x0, x1, x2, x3, x4⟩ := fo_cells hcs
                have hgl : gf < wr.heap.size := by have := hK.out.size; omega
                have hm := HMT.out k hkl
                obtain ⟨y0, y1, y2, y3, y4, y5⟩ := lq6 HGA.out (HBF2.out.trans (hK.out.mono HBF2.out.size))
                simp only at y0 y1 y2 y3 y4 y5
                have hpl := lt_of (blk_keep HGA.out (HBF2.out.trans (hK.out.mono HBF2.out.size)))
                generalize foAt L k = f at *
                obtain ⟨fs, f0, f1, f2, f3⟩ := f
                simp only at x0 x1 x2 x3 x4 hm
                have HM := Lib.hid hm
                clear hm hcs hsf
                go_wp2_with (first
                  | ((with_reducible refine store_new (dst := none) 105 (.tmp 17) (.tmp 150) wr _ #[.int .i64 fs, .int .i64 f0, .int .i64 f1, .int .i64 f2, .int .i64 f3] 105 rfl ?_ ?_ ?_ ?_ ?_ ?_); rfl; rfl; exact spfloatInfo; rfl; (simp [Value.oneCell'])))
                refine (HM.out _).mono ?_
                rintro e wg ⟨rfl, hbg⟩
                have HK2 := Lib.hid (hK.out.trans ((((Below.refl wr.heap.size wr).alloc (Nat.le_refl _) (.cells #[.int .i64 fs, .int .i64 f0, .int .i64 f1, .int .i64 f2, .int .i64 f3] 105)).trans (hbg.mono (by simp))).mono hK.out.size))
                clear hbg
                go_wp2_with fail
                go_roundw
                case rel => exact ⟨k + 1, by omega, by go_num, HK2⟩
                case measure => simp [intOf]; omega
              · have hkk : k = L.length := by omega
                subst hkk
                obtain ⟨y0, y1, y2, y3, y4, y5⟩ := lq6 HGA.out (HBF2.out.trans (hK.out.mono HBF2.out.size))
                simp only at y0 y1 y2 y3 y4 y5
                have HEND := Lib.hid (show LgI L ql qr zs lines w4 (i + 1) (done + 1) (qt + H) wr from ⟨HDROP.out, by omega, ⟨by omega, by push_cast; omega⟩, HD5.out.trans ((HRA.out wr (HBF2.out.trans (hK.out.mono HBF2.out.size))).mono HD5.out.size)⟩)
                clear hK
                go_wp2_with fail
                go_roundw
                case rel => exact ⟨i + 1, done + 1, qt + H, by omega, by go_num, by go_num, rfl, HEND⟩
                case measure => simp [intOf]; omega
          · (refine wp_region_laid_l (by kernel_rfl) [] 44 (by kernel_rfl) (by kernel_rfl) ?_; (repeat (first | (refine wpLex_laid (by rfl) ?_) | (refine wpLex_no (by rfl) (by rfl) ?_; go_simp) | (refine wpLex_val (by rfl) (by rfl) _ (by intro wq hq; have hSw := HKB.out wq hq; (try dsimp only at hSw); go_simp; rfl) ?_; go_simp))); refine wpLex_zero ?_)
            refine lend_none fun wc hbc => ?_
            have HBC := Lib.hid (show Below wb.heap.size wb wc from hbc)
            clear hbc
            clear HKB hwd
            go_wp2_with fail
            have hwc : Below w.heap.size w wc := HBW.out wc (HRA.out wc (HBB.out.trans (HBC.out.mono HBB.out.size)))
            have hsc := HS4.out.below (HD5.out.trans ((HRA.out wc (HBB.out.trans (HBC.out.mono HBB.out.size))).mono HD5.out.size)) (Nat.le_refl _)
            have HEC := Lib.hid (lq6 HGA.out (HBB.out.trans (HBC.out.mono HBB.out.size)))
            have HWC := Lib.hid hwc
            refine (floats_any L w.heap.size sp wc hsc (by omega)).mono ?_
            unfold FloatsPost
            rintro e wf ⟨vf, rfl, hof, hbf⟩
            have HFL := Lib.hid (isFos_of_own hof rfl)
            have HBF := Lib.hid (HWC.out.trans (hbf.mono HWC.out.size))
            have HBF2 := Lib.hid (show Below wa.heap.size wa wf from (HBB.out.trans ((HBC.out.trans (hbf.mono HBC.out.size)).mono HBB.out.size)))
            obtain ⟨Af, capf, rfl, hcf, hAf⟩ := HFL.out
            have HAF := Lib.hid hAf
            clear hof hbf hwc hsc hcf hAf
            go_wp2_with fail
            go_loopw [147] (fun x wr => ∃ k : Nat, k ≤ L.length ∧ x = .int .i64 k ∧ Hid (Below wf.heap.size wf wr)) (fun x _ => L.length - (intOf x).toNat)
            case atStart => exact ⟨0, by omega, rfl, Lib.hid (Below.refl _ _)⟩
            case round =>
              obtain ⟨k, hk, rfl, hK⟩ := hrel
              by_cases hkl : k < L.length
              · obtain ⟨gf, of, rfl, hgf, hsf⟩ := HAF.out (by omega)
                have hcs : wr.rangeAt gf (of + k * 5) (foC (foAt L k)) := fun j v hv => (hK.out.cell (p := ⟨gf, of + k * 5 + j, none⟩) hgf).trans (hsf k hkl j v hv)
                obtain ⟨x0, x1, x2, x3, x4⟩ := fo_cells hcs
                have hgl : gf < wr.heap.size := by have := hK.out.size; omega
                have hm := HMT.out k hkl
                obtain ⟨y0, y1, y2, y3, y4, y5⟩ := lq6 HGA.out (HBF2.out.trans (hK.out.mono HBF2.out.size))
                simp only at y0 y1 y2 y3 y4 y5
                have hpl := lt_of (blk_keep HGA.out (HBF2.out.trans (hK.out.mono HBF2.out.size)))
                generalize foAt L k = f at *
                obtain ⟨fs, f0, f1, f2, f3⟩ := f
                simp only at x0 x1 x2 x3 x4 hm
                have HM := Lib.hid hm
                clear hm hcs hsf
                go_wp2_with (first
                  | ((with_reducible refine store_new (dst := none) 105 (.tmp 17) (.tmp 150) wr _ #[.int .i64 fs, .int .i64 f0, .int .i64 f1, .int .i64 f2, .int .i64 f3] 105 rfl ?_ ?_ ?_ ?_ ?_ ?_); rfl; rfl; exact spfloatInfo; rfl; (simp [Value.oneCell'])))
                refine (HM.out _).mono ?_
                rintro e wg ⟨rfl, hbg⟩
                have HK2 := Lib.hid (hK.out.trans ((((Below.refl wr.heap.size wr).alloc (Nat.le_refl _) (.cells #[.int .i64 fs, .int .i64 f0, .int .i64 f1, .int .i64 f2, .int .i64 f3] 105)).trans (hbg.mono (by simp))).mono hK.out.size))
                clear hbg
                go_wp2_with fail
                go_roundw
                case rel => exact ⟨k + 1, by omega, by go_num, HK2⟩
                case measure => simp [intOf]; omega
              · have hkk : k = L.length := by omega
                subst hkk
                obtain ⟨y0, y1, y2, y3, y4, y5⟩ := lq6 HGA.out (HBF2.out.trans (hK.out.mono HBF2.out.size))
                simp only at y0 y1 y2 y3 y4 y5
                have HEND := Lib.hid (show LgI L a b zs lines w4 (i + 1) (done + n) (qt + H) wr from ⟨HDROP.out, n2, ⟨by omega, by push_cast; omega⟩, HD5.out.trans ((HRA.out wr (HBF2.out.trans (hK.out.mono HBF2.out.size))).mono HD5.out.size)⟩)
                clear hK
                go_wp2_with fail
                go_roundw
                case rel => exact ⟨i + 1, done + n, qt + H, by omega, by go_num, by go_num, rfl, HEND⟩
                case measure => simp [intOf]; omega
        · have hdn := line_end HZ.out d2 d1 (by omega)
          subst hdn
          have HBE := Lib.hid (HB4.out.trans (d5.mono HB4.out.size))
          clear d1 d5 hI
          have hir : i = lines.length := by omega
          subst hir
          go_wp2_with fail
          go_ret
          exact ⟨by first | rfl | simp, HBE.out⟩

  · have HBG := Lib.hid (begin13_no v0 L a b y w HF.out hL0 hnr)
    clear hnr
    go_enter Try.func11, Try.ntmps11
    go_wp2_with fail
    refine HBG.out.mono ?_
    rintro e w1 ⟨rfl, hb1⟩
    have HB1 := Lib.hid hb1
    clear hb1
    go_wp2_with fail
    refine (speaks13_any w1).mono ?_
    rintro e w2 ⟨rfl, hb2⟩
    have HB2 := Lib.hid (HB1.out.trans (hb2.mono HB1.out.size))
    clear hb2
    go_wp2_with fail
    refine (speaks13_any w2).mono ?_
    rintro e w3 ⟨rfl, hb3⟩
    have HB3 := Lib.hid (HB2.out.trans (hb3.mono HB2.out.size))
    clear hb3
    go_wp2_with fail
    go_ret
    exact ⟨rfl, HB3.out⟩
end Go.Proofs.Ytecojcdmigmnhaa
