/- The law PlaceMirror. -/
import Derived.Test.YtnkbbobdhcloeaaP7
import Derived.Test.YtnkbbobdhcloeaaPmr
import Derived.Test.YtnkbbobdhcloeaaFw
namespace Go.Proofs.Ytnkbbobdhcloeaa
set_option linter.unusedSimpArgs false
set_option linter.unusedVariables false
open Go.RowKit
theorem want11InfoM : (Try.prog.info? 55).map (·.size) = some 7 := by kernel_rfl
theorem floInfoM : (Try.prog.info? 68).map (·.size) = some 5 := by kernel_rfl
theorem floInfoM3 : (Try.prog.info? 68).map (fun i => (i.zero, i.size, i.bytes)) = some (some (.agg #[.int .i64 0, .int .i64 0, .int .i64 0, .int .i64 0, .int .i64 0]), 5, 40) := by kernel_rfl
theorem cf_of11M : ∀ (x : Value) (w : World), (callFunc 31 #[x]).run Try.prog w = .ok (.enter 31 #[x]) w := fun x w => by kernel_rfl
theorem cf_find11M : ∀ (x y : Value) (w : World), (callFunc 30 #[x, y]).run Try.prog w = .ok (.enter 30 #[x, y]) w := fun x y w => by kernel_rfl
theorem foM_one (f : Fo) : ∀ u ∈ foC f, u.oneCell' = true := foC_one f
theorem own_from {w : World} {base n k : Nat} {e : TypeId} {v : Value} {xs : List Value} (h : w.ownsRow base e 5 v n xs) (hk : v.ownBlock = some k) : base ≤ k := by
  rcases h.2 with ⟨rfl, _⟩ | ⟨g, cap, cur, rfl, hg, _⟩
  · simp [Value.ownBlock] at hk
  · simp [Value.ownBlock] at hk
    omega
theorem own_slice {w : World} {base n : Nat} {e : TypeId} {v : Value} {xs : List Value} (h : w.ownsRow base e 5 v n xs) : ∃ ad cv, v = Value.slice ad n cv := by
  rcases h.2 with ⟨rfl, h0⟩ | ⟨g, cap, cur, rfl, _⟩
  · exact ⟨none, 0, by rw [h0]⟩
  · exact ⟨_, cap, rfl⟩
def MInv (L : List Fo) (w0 : World) (i : Nat) (v : Value) (w : World) : Prop := w.ownsRow w0.heap.size 68 5 v i (flat foC ((L.take i).map mirF)) ∧ Below w0.heap.size w0 w
theorem mir_step (L : List Fo) (i : Nat) (hi : i < L.length) : flat foC ((L.take (i + 1)).map mirF) = flat foC ((L.take i).map mirF) ++ foC (mirF (foAt L i)) := by
  rw [List.take_succ_eq_append_getElem hi, List.map_append, List.map_singleton, foAt_eq L i hi]
  unfold flat
  simp
set_option maxRecDepth 20000 in
set_option maxHeartbeats 8000000 in
theorem placeMirror_any (L : List Fo) (v : Value) (q : Wp) (w : World) (h : IsFos w v L) (hn : L.length ≤ maxLen) : Calls Try.prog 12 #[v, .agg #[.int .i64 q.s, .int .i64 q.c, .int .i64 q.a, .int .i64 q.b, .int .i64 q.wd, .int .i64 q.h, .int .i64 q.y]] w fun e w' => e = .returned (.bool true) ∧ Below w.heap.size w w' := by
  obtain ⟨A, cap0, rfl, hx1, hx2⟩ := id h
  clear hx1 hx2
  obtain ⟨W0, hW0⟩ : ∃ W, w.alloc (.cells #[.int .i64 q.s, .int .i64 q.c, .int .i64 q.a, .int .i64 q.b, .int .i64 q.wd, .int .i64 q.h, .int .i64 q.y] 55) = W := ⟨_, rfl⟩
  obtain ⟨bq, hbq⟩ : ∃ b, w.heap.size = b := ⟨_, rfl⟩
  have hv0 : W0.heap[bq]? = some (.cells #[.int .i64 q.s, .int .i64 q.c, .int .i64 q.a, .int .i64 q.b, .int .i64 q.wd, .int .i64 q.h, .int .i64 q.y] 55 (0, 0)) := by rw [← hW0, ← hbq]; exact heap_alloc_new w _
  have hb0 : Below w.heap.size w W0 := by rw [← hW0]; exact (Below.refl _ _).alloc (Nat.le_refl _) _
  have hh0 := h.below hb0 (Nat.le_refl _)
  have HW0 := Lib.hid hW0
  have HBQ := Lib.hid hbq
  have HV0 := Lib.hid hv0
  have HB0 := Lib.hid hb0
  have HH0 := Lib.hid hh0
  clear hW0 hbq hv0 hb0 hh0 h
  have hri := fun w => right11_any q w
  by_cases hnm : nearB L = true ∧ (L.length : Int) ≤ 20
  · have hl : L.length ≤ 100000 := by have := hnm.2; omega
    have hbg := fun w h => begin11_yes (.slice A L.length cap0) L 20 w h hl hnm.1 hnm.2
    unfold BegSpPost at hbg
    have HBG := Lib.hid hbg
    have HNB := Lib.hid hnm.1
    have HNL := Lib.hid hn
    have HLL := Lib.hid hl
    have HML := Lib.hid hnm.2
    clear hbg hnm hn hl
    cases hq : okWp q with
    | false =>
      rw [hq] at hri
      have HRI := Lib.hid hri
      clear hri hq
      go_enter Try.func12, Try.ntmps12
      go_wp2_with fail
      rw [HW0.out, HBQ.out]
      refine (HBG.out _ HH0.out).mono ?_
      rintro e w1 ⟨sp, rfl, hs1, hb1⟩
      have HS1 := Lib.hid hs1
      have HB1 := Lib.hid hb1
      clear hb1 hs1
      go_wp2_with fail
      refine (speaks11_any _).mono ?_
      rintro e w2 ⟨rfl, hb2⟩
      have HS2 := Lib.hid (HS1.out.below hb2 (Nat.le_refl _))
      have HB2 := Lib.hid (Below.onto hb2 HB1.out)
      obtain ⟨x0, x1, x2, x3, x4, x5, x6⟩ := boxP (keepB HV0.out HB2.out)
      clear hb2
      go_wp2_with fail
      refine (HRI.out _).mono ?_
      rintro e w3 ⟨rfl, hb3⟩
      have HS3 := Lib.hid (HS2.out.below hb3 (Nat.le_refl _))
      have HB3 := Lib.hid (Below.onto hb3 HB2.out)
      clear hb3 x0 x1 x2 x3 x4 x5 x6
      obtain ⟨x0, x1, x2, x3, x4, x5, x6⟩ := boxP (keepB HV0.out HB3.out)
      clear x0 x1 x2 x3 x4 x5 x6
      go_wp2_with fail
      refine (speaks11_any _).mono ?_
      rintro e w4 ⟨rfl, hb4⟩
      have HB4 := Lib.hid (Below.onto hb4 HB3.out)
      clear hb4
      go_wp2_with fail
      go_ret
      exact ⟨rfl, Below.onto HB4.out HB0.out⟩
    | true =>
      rw [hq] at hri
      have HRI := Lib.hid hri
      have HQ := Lib.hid hq
      clear hri hq
      obtain ⟨⟨ia, ib, iw, ih, iy⟩, i0, i1, i2, i3⟩ := okWp_at HQ.out
      have hsd : ∀ f ∈ L, f.s = 1 ∨ f.s = 2 := fun f hf => (nearF_at (nearB_at HNB.out f hf)).2.2.2.2
      have hof := fun w => of11_any q w
      have hfd := fun base sp w h => find_any11 L q base sp w h HNB.out HLL.out HQ.out
      have hof2 := fun w => of11_any (mirQ q) w
      have hfd2 := fun base sp w h => find_any11 (L.map mirF) (mirQ q) base sp w h (mir_near HNB.out) (by rw [List.length_map]; exact HLL.out) (mir_ok HQ.out)
      have hbg2 := fun v w h => begin11_yes v (L.map mirF) 20 w h (by rw [List.length_map]; exact HLL.out) (mir_near HNB.out) (by rw [List.length_map]; exact HML.out)
      unfold BegSpPost at hbg2
      unfold PFindPost at hfd hfd2
      rw [mir_top HNB.out HQ.out, mir_left hsd i0] at hfd2
      have hli := leftP_in (y := topP L q) HNB.out HQ.out
      have hti := topP_in HNB.out HQ.out
      obtain ⟨t1, ht1⟩ : ∃ t, topP L q = t := ⟨_, rfl⟩
      rw [ht1] at hfd hfd2 hli hti
      obtain ⟨l1, hl1⟩ : ∃ t, leftP L q t1 = t := ⟨_, rfl⟩
      rw [hl1] at hfd hfd2 hli
      obtain ⟨rt, hrt⟩ : ∃ t, l1 + q.wd = t := ⟨_, rfl⟩
      obtain ⟨bt, hbt⟩ : ∃ t, t1 + q.h = t := ⟨_, rfl⟩
      have hqw : (mirQ q).wd = q.wd := rfl
      have hqh : (mirQ q).h = q.h := rfl
      rw [hqw, hqh] at hfd2
      rw [hrt, hbt] at hfd hfd2
      obtain ⟨m1, hm1⟩ : ∃ t, -rt = t := ⟨_, rfl⟩
      rw [hm1] at hfd2
      obtain ⟨m2, hm2⟩ : ∃ t, m1 + q.wd = t := ⟨_, rfl⟩
      rw [hm2] at hfd2
      unfold in48 at ia ib iw ih
      have heq1 : (l1 == -m2) = true := by rw [beq_iff_eq]; omega
      have heq2 : (rt == -m1) = true := by rw [beq_iff_eq]; omega
      have hb1 : -4503599627370496 ≤ m1 ∧ m1 ≤ 4503599627370496 := by omega
      have hb2 : -4503599627370496 ≤ m2 ∧ m2 ≤ 4503599627370496 := by omega
      have hnr : ∀ i, i < L.length → (-562949953421312 ≤ (foAt L i).x0 ∧ (foAt L i).x0 ≤ 562949953421312) ∧ (-562949953421312 ≤ (foAt L i).x1 ∧ (foAt L i).x1 ≤ 562949953421312) ∧ ((foAt L i).s = 1 ∨ (foAt L i).s = 2) := fun i hi => by
        have hm : foAt L i ∈ L := by rw [foAt_eq L i hi]; exact List.getElem_mem hi
        obtain ⟨h0, _, h2, _, h4⟩ := nearF_at (nearB_at HNB.out _ hm)
        exact ⟨h0, h2, h4⟩
      obtain ⟨c', hc'⟩ : ∃ c, mirC q.c = c := ⟨_, rfl⟩
      have hcs : ((q.c == 1) = true ∧ c' = 3 - q.c) ∨ ((q.c == 1) = false ∧ (q.c == 2) = true ∧ c' = 3 - q.c) ∨ ((q.c == 1) = false ∧ (q.c == 2) = false ∧ c' = q.c) := by
        rw [← hc']
        unfold mirC
        by_cases h1 : q.c = 1
        · left; exact ⟨by simp [h1], by rw [if_pos (.inl h1)]⟩
        · right
          by_cases h2 : q.c = 2
          · left; exact ⟨by simp [h1], by simp [h2], by rw [if_pos (.inr h2)]⟩
          · right; exact ⟨by simp [h1], by simp [h2], by rw [if_neg (by omega)]⟩
      have hof2 : ∀ w, Calls Try.prog 31 #[.agg #[.int .i64 (3 - q.s), .int .i64 c', .int .i64 (-q.b), .int .i64 (-q.a), .int .i64 q.wd, .int .i64 q.h, .int .i64 q.y]] w fun e w' => e = .returned (.agg #[.int .i64 (3 - q.s), .int .i64 c', .int .i64 (-q.b), .int .i64 (-q.a), .int .i64 q.wd, .int .i64 q.h, .int .i64 q.y]) ∧ Below w.heap.size w w' := by
        rw [← hc']
        exact hof2
      have hfd2 : ∀ base sp w, SpaceIs w base sp (L.map mirF) → Calls Try.prog 30 #[.pointer (some ⟨sp, 0, none⟩), .agg #[.int .i64 (3 - q.s), .int .i64 c', .int .i64 (-q.b), .int .i64 (-q.a), .int .i64 q.wd, .int .i64 q.h, .int .i64 q.y]] w fun e w' => e = .returned (agg4 (m1, t1, m2, bt)) ∧ Below w.heap.size w w' := by
        rw [← hc']
        exact hfd2
      have HEQ := Lib.hid (And.intro heq1 heq2)
      have HOF := Lib.hid hof
      have HFD := Lib.hid hfd
      have HOF2 := Lib.hid hof2
      have HFD2 := Lib.hid hfd2
      have HBG2 := Lib.hid hbg2
      have HNR := Lib.hid hnr
      have HCS := Lib.hid hcs
      clear hof hfd hof2 hfd2 hbg2 hnr hcs hc' hsd ht1 hl1 iy heq1 heq2 hrt hbt hm1 hm2 hqw hqh hti hli
      go_enter Try.func12, Try.ntmps12
      go_wp2_with fail
      rw [HW0.out, HBQ.out]
      refine (HBG.out _ HH0.out).mono ?_
      rintro e w1 ⟨sp, rfl, hs1, hb1⟩
      have HS1 := Lib.hid hs1
      have HB1 := Lib.hid hb1
      clear hb1 hs1
      go_wp2_with fail
      refine (speaks11_any _).mono ?_
      rintro e w2 ⟨rfl, hb2⟩
      have HS2 := Lib.hid (HS1.out.below hb2 (Nat.le_refl _))
      have HB2 := Lib.hid (Below.onto hb2 HB1.out)
      obtain ⟨x0, x1, x2, x3, x4, x5, x6⟩ := boxP (keepB HV0.out HB2.out)
      clear hb2
      go_wp2_with fail
      refine (HRI.out _).mono ?_
      rintro e w3 ⟨rfl, hb3⟩
      have HS3 := Lib.hid (HS2.out.below hb3 (Nat.le_refl _))
      have HB3 := Lib.hid (Below.onto hb3 HB2.out)
      clear hb3 x0 x1 x2 x3 x4 x5 x6
      obtain ⟨x0, x1, x2, x3, x4, x5, x6⟩ := boxP (keepB HV0.out HB3.out)
      have HX := Lib.hid (HH0.out.below HB3.out (Nat.le_refl _))
      clear x0 x1 x2 x3 x4 x5 x6
      obtain ⟨zi, hi0, hz0, hz1, hz2⟩ := info_parts floInfoM3
      obtain ⟨A', capx, heq, _, hx8⟩ := id HX.out
      have heq : A' = A ∧ capx = cap0 := by injection heq with e1 e2 e3; exact ⟨e1.symm, e3.symm⟩
      obtain ⟨rfl, rfl⟩ := heq
      have HF8 := Lib.hid hx8
      have hLm := HLL.out
      clear hx8
      go_wp2_with fail
      go_loopw [6, 29] (fun v x wr => ∃ i : Nat, i ≤ L.length ∧ x = .int .i64 i ∧ Hid (MInv L w3 i v wr)) (fun _ x _ => L.length - (intOf x).toNat)
      case atStart => exact ⟨0, by omega, rfl, Lib.hid ⟨⟨rfl, .inl ⟨rfl, rfl⟩⟩, Below.refl _ _⟩⟩
      case round =>
        obtain ⟨i, hi, rfl, hI⟩ := hrel
        obtain ⟨ad, cv, rfl⟩ : ∃ ad cv, u6 = Value.slice ad i cv := own_slice hI.out.1
        by_cases hlt : i < L.length
        · obtain ⟨g, o, rfl, hg, hs⟩ := HF8.out (by omega)
          have hbs := hI.out.2.size
          obtain ⟨b0, b1, b2, b3, b4⟩ := fo_cells (w := wr) (fun j v hv => (hI.out.2.cell (p := ⟨g, o + i * 5 + j, none⟩) hg).trans (hs i hlt j v hv))
          have hgl : g < wr.heap.size := by omega
          obtain ⟨n0, n2, n4⟩ := HNR.out i hlt
          have hms := mir_step L i hlt
          have hmf : foC (mirF (foAt L i)) = [.int .i64 (3 - (foAt L i).s), .int .i64 (-(foAt L i).x1), .int .i64 (foAt L i).y0, .int .i64 (-(foAt L i).x0), .int .i64 (foAt L i).y1] := rfl
          rw [hmf] at hms
          have HMS := Lib.hid hms
          have HI := Lib.hid hI.out
          clear hI hs hmf hms
          generalize (foAt L i).s = fs at *
          generalize (foAt L i).x0 = f0 at *
          generalize (foAt L i).y0 = f1 at *
          generalize (foAt L i).x1 = f2 at *
          generalize (foAt L i).y1 = f3 at *
          have hwa := (Below.refl wr.heap.size wr).alloc (Nat.le_refl _) (.cells #[.int .i64 (3 - fs), .int .i64 (-f2), .int .i64 f1, .int .i64 (-f0), .int .i64 f3] 68)
          have hwb := hwa.alloc hwa.size (.cells #[.int .i64 (3 - fs), .int .i64 (-f2), .int .i64 f1, .int .i64 (-f0), .int .i64 f3] 68)
          have hown := own_below HI.out.1 hwb
          have hnews := range_new (wr.alloc (.cells #[.int .i64 (3 - fs), .int .i64 (-f2), .int .i64 f1, .int .i64 (-f0), .int .i64 f3] 68)) [.int .i64 (3 - fs), .int .i64 (-f2), .int .i64 f1, .int .i64 (-f0), .int .i64 f3] 68
          have HOWN := Lib.hid hown
          have HWB := Lib.hid hwb
          have HNEW := Lib.hid hnews
          clear hwa hwb hown hnews
          go_wp2_with (first
            | ((with_reducible refine store_new (dst := none) 68 (.tmp 8) (.tmp 32) wr _ #[.int .i64 fs, .int .i64 f0, .int .i64 f1, .int .i64 f2, .int .i64 f3] 68 rfl ?_ ?_ ?_ ?_ ?_ ?_); rfl; rfl; exact floInfoM; rfl; (simp [Value.oneCell']))
            | (at_builtin; refine wpList_append_own_at _ rfl (.tmp 49) (.tmp 51) 22 (by rfl) w3.heap.size 68 zi (.agg #[.int .i64 0, .int .i64 0, .int .i64 0, .int .i64 0, .int .i64 0]) 5 40 Try.underlying22 hi0 hz0 hz1 hz2 rfl (by decide) _ i (flat foC ((L.take i).map mirF)) (by rfl) HOWN.out ⟨wr.heap.size + 1, 0, none⟩ 1 1 [.int .i64 (3 - fs), .int .i64 (-f2), .int .i64 f1, .int .i64 (-f0), .int .i64 f3] (by rfl) rfl (fun j u hu => by have h := HNEW.out j u hu; simpa [Addr.add_mid] using h) (by simp [Value.oneCell']) (by unfold maxLen; omega) (by omega) (by have := HWB.out.size; simp at this; simp; omega) ?_; intro v2 w2 hI2 hg2 hn2 ha2; have HI2 := Lib.hid hI2; have HG2 := Lib.hid hg2; clear hI2 hg2 ha2 hn2))
          have hU : MInv L w3 (i + 1) v2 w2 := by
            refine ⟨?_, (Below.onto HWB.out HI.out.2).grown HG2.out (by have := HWB.out.size; simp at this; simp; omega) (fun k hk => own_from HI.out.1 hk)⟩
            rw [HMS.out]
            exact HI2.out
          have HU := Lib.hid hU
          clear hU
          go_wp2_with fail
          go_roundw
          case rel => exact ⟨i + 1, by omega, by go_num, HU⟩
          case measure => simp [intOf]; omega
        · have hir : i = L.length := by omega
          subst hir
          have htk : (L.take L.length).map mirF = L.map mirF := by rw [List.take_length]
          have hmf : IsFos wr (.slice ad L.length cv) (L.map mirF) := by
            have h := hI.out.1
            rw [htk] at h
            exact isFos_of_own h (by rw [List.length_map])
          have HMF := Lib.hid hmf
          have HI := Lib.hid hI.out.2
          have HS4 := Lib.hid (HS3.out.below hI.out.2 (Nat.le_refl _))
          have HB4 := Lib.hid (Below.onto hI.out.2 HB3.out)
          clear hmf hI hlt hi htk
          go_wp2_with fail
          refine (HBG2.out _ wr HMF.out).mono ?_
          rintro e w5 ⟨sp2, rfl, hs5, hb5⟩
          have HT5 := Lib.hid hs5
          have HS5 := Lib.hid (HS4.out.below hb5 (Nat.le_refl _))
          have HB5 := Lib.hid (Below.onto hb5 HB4.out)
          clear hs5 hb5
          obtain ⟨x0, x1, x2, x3, x4, x5, x6⟩ := boxP (keepB HV0.out HB5.out)
          have hql : bq < w5.heap.size := by have := HB5.out.size; have := (Array.getElem?_eq_some_iff.1 HV0.out).1; omega
          go_wp2_with (first
            | ((with_reducible refine store_new (dst := none) 55 (.tmp 10) (.tmp 58) w5 _ #[.int .i64 q.s, .int .i64 q.c, .int .i64 q.a, .int .i64 q.b, .int .i64 q.wd, .int .i64 q.h, .int .i64 q.y] 55 rfl ?_ ?_ ?_ ?_ ?_ ?_); rfl; rfl; exact want11InfoM; rfl; (simp [Value.oneCell'])))
          obtain ⟨W6, hW6⟩ : ∃ W, w5.alloc (.cells #[.int .i64 (3 - q.s), .int .i64 q.c, .int .i64 q.a, .int .i64 q.b, .int .i64 q.wd, .int .i64 q.h, .int .i64 q.y] 55) = W := ⟨_, rfl⟩
          obtain ⟨b10, hb10⟩ : ∃ b, w5.heap.size = b := ⟨_, rfl⟩
          rw [hW6, hb10]
          have g10 : W6.heap[b10]? = some (.cells #[.int .i64 (3 - q.s), .int .i64 q.c, .int .i64 q.a, .int .i64 q.b, .int .i64 q.wd, .int .i64 q.h, .int .i64 q.y] 55 (0, 0)) := by rw [← hW6, ← hb10]; exact heap_alloc_new w5 _
          have hb56 : Below w5.heap.size w5 W6 := by rw [← hW6]; exact (Below.refl _ _).alloc (Nat.le_refl _) _
          have hgq := keepB (keepB HV0.out HB5.out) hb56
          have hne : bq ≠ b10 := by omega
          have HG10 := Lib.hid g10
          have HGQ := Lib.hid hgq
          have HB56 := Lib.hid hb56
          have HNE := Lib.hid hne
          have HBT := Lib.hid hb10
          clear x0 x1 x2 x3 x4 x5 x6 hW6 hb10 hql
          obtain ⟨y0, y1, y2, y3, y4, y5, y6⟩ := boxP g10
          have f2 := frozen_of_row W6 b10 2 _ _ g10
          have f3 := frozen_of_row W6 b10 3 _ _ g10
          have HK0 : Hid (W6.drew.cell? ⟨bq, 2, none⟩ = some (.int .i64 q.a) ∧ W6.drew.cell? ⟨bq, 3, none⟩ = some (.int .i64 q.b)) := ⟨(boxP hgq).2.2.1, (boxP hgq).2.2.2.1⟩
          have hr1 := (heap_setCell_other W6 ⟨b10, 2, none⟩ bq (.int .i64 (-q.b)) hne).trans hgq
          have HK1 : Hid ((W6.setCell ⟨b10, 2, none⟩ (.int .i64 (-q.b))).drew.cell? ⟨bq, 2, none⟩ = some (.int .i64 q.a) ∧ (W6.setCell ⟨b10, 2, none⟩ (.int .i64 (-q.b))).drew.cell? ⟨bq, 3, none⟩ = some (.int .i64 q.b)) := ⟨(boxP hr1).2.2.1, (boxP hr1).2.2.2.1⟩
          have hr2 := (heap_setCell_other (W6.setCell ⟨b10, 2, none⟩ (.int .i64 (-q.b))) ⟨b10, 3, none⟩ bq (.int .i64 (-q.a)) hne).trans hr1
          have HK2 : Hid (((W6.setCell ⟨b10, 2, none⟩ (.int .i64 (-q.b))).setCell ⟨b10, 3, none⟩ (.int .i64 (-q.a))).drew.cell? ⟨bq, 2, none⟩ = some (.int .i64 q.a) ∧ ((W6.setCell ⟨b10, 2, none⟩ (.int .i64 (-q.b))).setCell ⟨b10, 3, none⟩ (.int .i64 (-q.a))).drew.cell? ⟨bq, 3, none⟩ = some (.int .i64 q.b)) := ⟨(boxP hr2).2.2.1, (boxP hr2).2.2.2.1⟩
          have hg1 := heap_setCell_same W6 b10 2 _ _ (.int .i64 (-q.b)) g10
          have HR2 := Lib.hid hr2
          have HG2 := Lib.hid (heap_setCell_same _ b10 3 _ _ (.int .i64 (-q.a)) hg1)
          have hw1 : IntKind.i64.wrap (-q.b) = -q.b := by rw [IntKind.wrap_i64]; omega
          have hw2 : IntKind.i64.wrap (-q.a) = -q.a := by rw [IntKind.wrap_i64]; omega
          clear hr1 hr2 hg1 hne g10 hgq hb56 y0 y1 y4 y5 y6
          refine wp_region_held_drew (S := (fun w' => w'.cell? ⟨bq, 2, none⟩ = some (.int .i64 q.a) ∧ w'.cell? ⟨bq, 3, none⟩ = some (.int .i64 q.b))) (by kernel_rfl) HK0.out (fun hHeld => ?_)
          refine wpAnyH_take (i := 0) (v := ?_) rfl (by kernel_rfl) (by kernel_rfl) (by kernel_rfl) (fun _ _ _ h => h) (Or.inl ⟨by rfl, ?_⟩) (by assumption) ?_
          rotate_left
          focus ((intro wS hSw; (try dsimp only at hSw); go_simp); (try (with_reducible rfl)))
          simp only [Act.put, List.getElem_toArray, List.getElem_cons_zero, List.getElem_cons_succ, List.setIfInBounds_toArray, List.set_cons_zero, List.set_cons_succ]
          refine wpAnyH_take (i := 1) (v := ?_) rfl (by kernel_rfl) (by kernel_rfl) (by kernel_rfl) (fun _ _ _ h => h) (Or.inl ⟨by rfl, ?_⟩) (by assumption) ?_
          rotate_left
          focus ((intro wS hSw; (try dsimp only at hSw); go_simp); (try (with_reducible rfl)))
          simp only [Act.put, List.getElem_toArray, List.getElem_cons_zero, List.getElem_cons_succ, List.setIfInBounds_toArray, List.set_cons_zero, List.set_cons_succ]
          refine wpAnyH_take (i := 2) (v := ?_) rfl (by kernel_rfl) (by kernel_rfl) (by kernel_rfl) (fun _ _ _ h => h) (Or.inl ⟨by rfl, ?_⟩) (by assumption) ?_
          rotate_left
          focus ((intro wS hSw; (try dsimp only at hSw); go_simp); (try (with_reducible rfl)))
          simp only [Act.put, List.getElem_toArray, List.getElem_cons_zero, List.getElem_cons_succ, List.setIfInBounds_toArray, List.set_cons_zero, List.set_cons_succ]
          refine wpAnyH_take (i := 3) (v := ?_) rfl (by kernel_rfl) (by kernel_rfl) (by kernel_rfl) (fun _ _ _ h => h) (Or.inl ⟨by rfl, ?_⟩) (by assumption) ?_
          rotate_left
          focus ((intro wS hSw; (try dsimp only at hSw); go_simp); (try (with_reducible rfl)))
          simp only [Act.put, List.getElem_toArray, List.getElem_cons_zero, List.getElem_cons_succ, List.setIfInBounds_toArray, List.set_cons_zero, List.set_cons_succ]
          refine wpAnyH_take (i := 4) (v := ?_) rfl (by kernel_rfl) (by kernel_rfl) (by kernel_rfl) (fun _ _ _ h => h) (Or.inl ⟨by rfl, ?_⟩) (by assumption) ?_
          rotate_left
          focus ((intro wS hSw; (try dsimp only at hSw); go_simp); (try (with_reducible rfl)))
          simp only [Act.put, List.getElem_toArray, List.getElem_cons_zero, List.getElem_cons_succ, List.setIfInBounds_toArray, List.set_cons_zero, List.set_cons_succ]
          refine wpAnyH_take (i := 5) (v := ?_) rfl (by kernel_rfl) (by kernel_rfl) (by kernel_rfl) (fun _ _ _ h => h) (Or.inl ⟨by rfl, ?_⟩) (by assumption) ?_
          rotate_left
          focus ((intro wS hSw; (try dsimp only at hSw); go_simp); (try (with_reducible rfl)))
          simp only [Act.put, List.getElem_toArray, List.getElem_cons_zero, List.getElem_cons_succ, List.setIfInBounds_toArray, List.set_cons_zero, List.set_cons_succ]
          refine wpAnyH_take (i := 6) (v := ?_) rfl (by kernel_rfl) (by kernel_rfl) (by kernel_rfl) (fun _ _ _ h => h) (Or.inl ⟨by rfl, ?_⟩) (by assumption) ?_
          rotate_left
          focus ((intro wS hSw; (try dsimp only at hSw); go_simp); (try (with_reducible rfl)))
          simp only [Act.put, List.getElem_toArray, List.getElem_cons_zero, List.getElem_cons_succ, List.setIfInBounds_toArray, List.set_cons_zero, List.set_cons_succ]
          refine wpAnyH_ready (rs := [7]) (by kernel_rfl) (by simp) ?_
          refine AllReadyH.cons rfl (fun K hK => ?_) AllReadyH.nil
          go_simp
          refine hK.out _ _ HK1.out (fun hHeld => ?_)
          clear hK K
          (try simp only [Act.put, List.getElem_toArray, List.getElem_cons_zero, List.getElem_cons_succ, List.setIfInBounds_toArray, List.set_cons_zero, List.set_cons_succ])
          refine wpAnyH_take (i := 8) (v := ?_) rfl (by kernel_rfl) (by kernel_rfl) (by kernel_rfl) (fun _ _ _ h => h) (Or.inl ⟨by rfl, ?_⟩) (by assumption) ?_
          rotate_left
          focus ((intro wS hSw; (try dsimp only at hSw); go_simp); (try (with_reducible rfl)))
          simp only [Act.put, List.getElem_toArray, List.getElem_cons_zero, List.getElem_cons_succ, List.setIfInBounds_toArray, List.set_cons_zero, List.set_cons_succ]
          refine wpAnyH_ready (rs := [9]) (by kernel_rfl) (by simp) ?_
          refine AllReadyH.cons rfl (fun K hK => ?_) AllReadyH.nil
          go_simp
          refine hK.out _ _ HK2.out (fun hHeld => ?_)
          clear hK K
          (try simp only [Act.put, List.getElem_toArray, List.getElem_cons_zero, List.getElem_cons_succ, List.setIfInBounds_toArray, List.set_cons_zero, List.set_cons_succ])
          refine wpAnyH_done (by kernel_rfl) ?_ _
          clear hHeld hw1 hw2 y2 y3 f2 f3
          obtain ⟨W8, hW8⟩ : ∃ W, ((W6.setCell ⟨b10, 2, none⟩ (.int .i64 (-q.b))).setCell ⟨b10, 3, none⟩ (.int .i64 (-q.a))).drew = W := ⟨_, rfl⟩
          have hgq8 : W8.heap[bq]? = some (.cells #[.int .i64 q.s, .int .i64 q.c, .int .i64 q.a, .int .i64 q.b, .int .i64 q.wd, .int .i64 q.h, .int .i64 q.y] 55 (0, 0)) := by rw [← hW8]; exact HR2.out
          have hg8 : W8.heap[b10]? = some (.cells #[.int .i64 (3 - q.s), .int .i64 q.c, .int .i64 (-q.b), .int .i64 (-q.a), .int .i64 q.wd, .int .i64 q.h, .int .i64 q.y] 55 (0, 0)) := by rw [← hW8]; exact HG2.out
          have hwz : w5.heap.size ≤ b10 := by have := HBT.out; omega
          have hb8 : Below w5.heap.size w5 W8 := by rw [← hW8]; exact (Below.setCell (Below.setCell HB56.out hwz _) hwz _).drew
          rw [hW8]
          have hne := HNE.out
          have HGQ8 := Lib.hid hgq8
          have HG8 := Lib.hid hg8
          have HB8 := Lib.hid hb8
          obtain ⟨x0, x1, x2, x3, x4, x5, x6⟩ := boxP hgq8
          obtain ⟨y0, y1, y2, y3, y4, y5, y6⟩ := boxP hg8
          have f1 := frozen_of_row W8 b10 1 _ _ hg8
          clear hW8 hgq8 hg8 hb8 HK0 HK1 HK2 HR2 HG2 HG10 HGQ HB56 HNE y0 y2 y3 y4 y5 y6 x2 x3
          obtain ⟨q1, q2⟩ := HEQ.out
          have HQ1 := Lib.hid q1
          have HQ2 := Lib.hid q2
          clear q1 q2
          rcases HCS.out with ⟨d1, hc'⟩ | ⟨d1, d2, hc'⟩ | ⟨d1, d2, hc'⟩
          · have HC' := Lib.hid hc'
            clear hc'
            go_wp2_with fail
            rename_i K hK
            obtain ⟨W9, hW9⟩ : ∃ W, W8.setCell ⟨b10, 1, none⟩ (.int .i64 (3 - q.c)) = W := ⟨_, rfl⟩
            rw [hW9]
            have hg9 : W9.heap[b10]? = some (.cells #[.int .i64 (3 - q.s), .int .i64 c', .int .i64 (-q.b), .int .i64 (-q.a), .int .i64 q.wd, .int .i64 q.h, .int .i64 q.y] 55 (0, 0)) := by rw [← hW9, HC'.out]; exact heap_setCell_same W8 b10 1 _ _ _ HG8.out
            have hgq9 : W9.heap[bq]? = some (.cells #[.int .i64 q.s, .int .i64 q.c, .int .i64 q.a, .int .i64 q.b, .int .i64 q.wd, .int .i64 q.h, .int .i64 q.y] 55 (0, 0)) := by rw [← hW9]; exact (heap_setCell_other W8 ⟨b10, 1, none⟩ bq _ hne).trans HGQ8.out
            have hb9 : Below w5.heap.size w5 W9 := by rw [← hW9]; exact Below.setCell HB8.out hwz _
            clear hW9
            have HS9 := Lib.hid (HS5.out.below hb9 (Nat.le_refl _))
            have HT9 := Lib.hid (HT5.out.below hb9 (Nat.le_refl _))
            have HB9 := Lib.hid (Below.onto hb9 HB5.out)
            clear hb9 x0 x1 x4 x5 x6 y1 f1 hne
            refine two_at 83 11 5 9 3 10 bq b10 (.pointer (some ⟨sp, 0, none⟩)) (.pointer (some ⟨sp2, 0, none⟩)) (.agg #[.int .i64 q.s, .int .i64 q.c, .int .i64 q.a, .int .i64 q.b, .int .i64 q.wd, .int .i64 q.h, .int .i64 q.y]) (.agg #[.int .i64 (3 - q.s), .int .i64 c', .int .i64 (-q.b), .int .i64 (-q.a), .int .i64 q.wd, .int .i64 q.h, .int .i64 q.y]) 31 30 [.int .i64 q.s, .int .i64 q.c, .int .i64 q.a, .int .i64 q.b, .int .i64 q.wd, .int .i64 q.h, .int .i64 q.y] [.int .i64 (3 - q.s), .int .i64 c', .int .i64 (-q.b), .int .i64 (-q.a), .int .i64 q.wd, .int .i64 q.h, .int .i64 q.y] (l1, t1, rt, bt) (m1, t1, m2, bt) 55 25 59 55 55 _
              (by kernel_rfl) rfl (by kernel_rfl) ⟨⟨_, rfl, rfl, rfl, rfl⟩, ⟨_, rfl, rfl, rfl, rfl⟩, ⟨_, rfl, rfl, rfl, rfl⟩, ⟨_, rfl, rfl, rfl, rfl⟩, ⟨_, rfl, rfl, rfl, rfl⟩, ⟨_, rfl, rfl, rfl, rfl⟩, ⟨_, rfl, rfl, rfl, rfl⟩, ⟨_, rfl, rfl, rfl, rfl⟩, ⟨_, rfl, rfl, rfl, rfl⟩, ⟨_, rfl, rfl, rfl, rfl⟩, ⟨_, rfl, rfl, rfl, rfl⟩, ⟨_, rfl, rfl, rfl, rfl⟩⟩ (by kernel_rfl)
              cf_of11M cf_find11M (by decide) (by simp) (by decide) (by decide) (by decide) (by decide) rfl rfl rfl rfl rfl rfl Try.underlying55 rfl want11InfoM want11InfoM
              hgq9 hg9 HOF.out HOF2.out (fun w hb => HFD.out _ sp w (HS9.out.below hb (Nat.le_refl _))) (fun w hb => HFD2.out _ sp2 w (HT9.out.below hb (Nat.le_refl _))) ?_
            intro bA bB w10 hA hB hne2 hnA hnB hb10
            have HB10 := Lib.hid (Below.onto hb10 HB9.out)
            obtain ⟨a0, a1, a2, a3⟩ := box4v hA
            obtain ⟨c0, c1, c2, c3⟩ := box4v hB
            simp only at a0 a1 a2 a3 c0 c1 c2 c3
            have q1 := HQ1.out
            have q2 := HQ2.out
            refine hK _ _ ?_
            clear hK hA hB hb10 hg9 hgq9 hnA hnB hne2
            go_wp2_with fail
            go_ret
            exact ⟨rfl, Below.onto HB10.out HB0.out⟩
          · have HC' := Lib.hid hc'
            clear hc'
            go_wp2_with fail
            rename_i K hK
            obtain ⟨W9, hW9⟩ : ∃ W, W8.setCell ⟨b10, 1, none⟩ (.int .i64 (3 - q.c)) = W := ⟨_, rfl⟩
            rw [hW9]
            have hg9 : W9.heap[b10]? = some (.cells #[.int .i64 (3 - q.s), .int .i64 c', .int .i64 (-q.b), .int .i64 (-q.a), .int .i64 q.wd, .int .i64 q.h, .int .i64 q.y] 55 (0, 0)) := by rw [← hW9, HC'.out]; exact heap_setCell_same W8 b10 1 _ _ _ HG8.out
            have hgq9 : W9.heap[bq]? = some (.cells #[.int .i64 q.s, .int .i64 q.c, .int .i64 q.a, .int .i64 q.b, .int .i64 q.wd, .int .i64 q.h, .int .i64 q.y] 55 (0, 0)) := by rw [← hW9]; exact (heap_setCell_other W8 ⟨b10, 1, none⟩ bq _ hne).trans HGQ8.out
            have hb9 : Below w5.heap.size w5 W9 := by rw [← hW9]; exact Below.setCell HB8.out hwz _
            clear hW9
            have HS9 := Lib.hid (HS5.out.below hb9 (Nat.le_refl _))
            have HT9 := Lib.hid (HT5.out.below hb9 (Nat.le_refl _))
            have HB9 := Lib.hid (Below.onto hb9 HB5.out)
            clear hb9 x0 x1 x4 x5 x6 y1 f1 hne
            refine two_at 83 11 5 9 3 10 bq b10 (.pointer (some ⟨sp, 0, none⟩)) (.pointer (some ⟨sp2, 0, none⟩)) (.agg #[.int .i64 q.s, .int .i64 q.c, .int .i64 q.a, .int .i64 q.b, .int .i64 q.wd, .int .i64 q.h, .int .i64 q.y]) (.agg #[.int .i64 (3 - q.s), .int .i64 c', .int .i64 (-q.b), .int .i64 (-q.a), .int .i64 q.wd, .int .i64 q.h, .int .i64 q.y]) 31 30 [.int .i64 q.s, .int .i64 q.c, .int .i64 q.a, .int .i64 q.b, .int .i64 q.wd, .int .i64 q.h, .int .i64 q.y] [.int .i64 (3 - q.s), .int .i64 c', .int .i64 (-q.b), .int .i64 (-q.a), .int .i64 q.wd, .int .i64 q.h, .int .i64 q.y] (l1, t1, rt, bt) (m1, t1, m2, bt) 55 25 59 55 55 _
              (by kernel_rfl) rfl (by kernel_rfl) ⟨⟨_, rfl, rfl, rfl, rfl⟩, ⟨_, rfl, rfl, rfl, rfl⟩, ⟨_, rfl, rfl, rfl, rfl⟩, ⟨_, rfl, rfl, rfl, rfl⟩, ⟨_, rfl, rfl, rfl, rfl⟩, ⟨_, rfl, rfl, rfl, rfl⟩, ⟨_, rfl, rfl, rfl, rfl⟩, ⟨_, rfl, rfl, rfl, rfl⟩, ⟨_, rfl, rfl, rfl, rfl⟩, ⟨_, rfl, rfl, rfl, rfl⟩, ⟨_, rfl, rfl, rfl, rfl⟩, ⟨_, rfl, rfl, rfl, rfl⟩⟩ (by kernel_rfl)
              cf_of11M cf_find11M (by decide) (by simp) (by decide) (by decide) (by decide) (by decide) rfl rfl rfl rfl rfl rfl Try.underlying55 rfl want11InfoM want11InfoM
              hgq9 hg9 HOF.out HOF2.out (fun w hb => HFD.out _ sp w (HS9.out.below hb (Nat.le_refl _))) (fun w hb => HFD2.out _ sp2 w (HT9.out.below hb (Nat.le_refl _))) ?_
            intro bA bB w10 hA hB hne2 hnA hnB hb10
            have HB10 := Lib.hid (Below.onto hb10 HB9.out)
            obtain ⟨a0, a1, a2, a3⟩ := box4v hA
            obtain ⟨c0, c1, c2, c3⟩ := box4v hB
            simp only at a0 a1 a2 a3 c0 c1 c2 c3
            have q1 := HQ1.out
            have q2 := HQ2.out
            refine hK _ _ ?_
            clear hK hA hB hb10 hg9 hgq9 hnA hnB hne2
            go_wp2_with fail
            go_ret
            exact ⟨rfl, Below.onto HB10.out HB0.out⟩
          · have HC' := Lib.hid hc'
            clear hc'
            go_wp2_with fail
            rename_i K hK
            obtain ⟨W9, hW9⟩ : ∃ W, W8 = W := ⟨_, rfl⟩
            rw [hW9]
            have hg9 : W9.heap[b10]? = some (.cells #[.int .i64 (3 - q.s), .int .i64 c', .int .i64 (-q.b), .int .i64 (-q.a), .int .i64 q.wd, .int .i64 q.h, .int .i64 q.y] 55 (0, 0)) := by rw [← hW9, HC'.out]; exact HG8.out
            have hgq9 : W9.heap[bq]? = some (.cells #[.int .i64 q.s, .int .i64 q.c, .int .i64 q.a, .int .i64 q.b, .int .i64 q.wd, .int .i64 q.h, .int .i64 q.y] 55 (0, 0)) := by rw [← hW9]; exact HGQ8.out
            have hb9 : Below w5.heap.size w5 W9 := by rw [← hW9]; exact HB8.out
            clear hW9
            have HS9 := Lib.hid (HS5.out.below hb9 (Nat.le_refl _))
            have HT9 := Lib.hid (HT5.out.below hb9 (Nat.le_refl _))
            have HB9 := Lib.hid (Below.onto hb9 HB5.out)
            clear hb9 x0 x1 x4 x5 x6 y1 f1 hne
            refine two_at 83 11 5 9 3 10 bq b10 (.pointer (some ⟨sp, 0, none⟩)) (.pointer (some ⟨sp2, 0, none⟩)) (.agg #[.int .i64 q.s, .int .i64 q.c, .int .i64 q.a, .int .i64 q.b, .int .i64 q.wd, .int .i64 q.h, .int .i64 q.y]) (.agg #[.int .i64 (3 - q.s), .int .i64 c', .int .i64 (-q.b), .int .i64 (-q.a), .int .i64 q.wd, .int .i64 q.h, .int .i64 q.y]) 31 30 [.int .i64 q.s, .int .i64 q.c, .int .i64 q.a, .int .i64 q.b, .int .i64 q.wd, .int .i64 q.h, .int .i64 q.y] [.int .i64 (3 - q.s), .int .i64 c', .int .i64 (-q.b), .int .i64 (-q.a), .int .i64 q.wd, .int .i64 q.h, .int .i64 q.y] (l1, t1, rt, bt) (m1, t1, m2, bt) 55 25 59 55 55 _
              (by kernel_rfl) rfl (by kernel_rfl) ⟨⟨_, rfl, rfl, rfl, rfl⟩, ⟨_, rfl, rfl, rfl, rfl⟩, ⟨_, rfl, rfl, rfl, rfl⟩, ⟨_, rfl, rfl, rfl, rfl⟩, ⟨_, rfl, rfl, rfl, rfl⟩, ⟨_, rfl, rfl, rfl, rfl⟩, ⟨_, rfl, rfl, rfl, rfl⟩, ⟨_, rfl, rfl, rfl, rfl⟩, ⟨_, rfl, rfl, rfl, rfl⟩, ⟨_, rfl, rfl, rfl, rfl⟩, ⟨_, rfl, rfl, rfl, rfl⟩, ⟨_, rfl, rfl, rfl, rfl⟩⟩ (by kernel_rfl)
              cf_of11M cf_find11M (by decide) (by simp) (by decide) (by decide) (by decide) (by decide) rfl rfl rfl rfl rfl rfl Try.underlying55 rfl want11InfoM want11InfoM
              hgq9 hg9 HOF.out HOF2.out (fun w hb => HFD.out _ sp w (HS9.out.below hb (Nat.le_refl _))) (fun w hb => HFD2.out _ sp2 w (HT9.out.below hb (Nat.le_refl _))) ?_
            intro bA bB w10 hA hB hne2 hnA hnB hb10
            have HB10 := Lib.hid (Below.onto hb10 HB9.out)
            obtain ⟨a0, a1, a2, a3⟩ := box4v hA
            obtain ⟨c0, c1, c2, c3⟩ := box4v hB
            simp only at a0 a1 a2 a3 c0 c1 c2 c3
            have q1 := HQ1.out
            have q2 := HQ2.out
            refine hK _ _ ?_
            clear hK hA hB hb10 hg9 hgq9 hnA hnB hne2
            go_wp2_with fail
            go_ret
            exact ⟨rfl, Below.onto HB10.out HB0.out⟩
  · have hbg := fun w h => begin11_no (.slice A L.length cap0) L 20 w h hn hnm
    have HBG := Lib.hid hbg
    clear hbg hnm hn hri
    go_enter Try.func12, Try.ntmps12
    go_wp2_with fail
    rw [HW0.out, HBQ.out]
    refine (HBG.out _ HH0.out).mono ?_
    rintro e w1 ⟨rfl, hb1⟩
    have HB1 := Lib.hid hb1
    clear hb1
    go_wp2_with fail
    refine (speaks11_any _).mono ?_
    rintro e w2 ⟨rfl, hb2⟩
    have HB2 := Lib.hid (Below.onto hb2 HB1.out)
    clear hb2
    go_wp2_with fail
    refine (speaks11_any _).mono ?_
    rintro e w3 ⟨rfl, hb3⟩
    have HB3 := Lib.hid (Below.onto hb3 HB2.out)
    clear hb3
    go_wp2_with fail
    go_ret
    exact ⟨rfl, Below.onto HB3.out HB0.out⟩
end Go.Proofs.Ytnkbbobdhcloeaa
