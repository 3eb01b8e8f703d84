/- Lines: the document's Near, Right; the law's Of, begin, speaks. Lines: the law's begin, speaks. Lines, plain: what each line of All is. -/
import Derived.Test.YtecojcdmigmnhaaLna
import Derived.Test.YtecojcdmigmnhaaAv2
import Derived.Test.YtecojcdmigmnhaaSpg
namespace Go.Proofs.Ytecojcdmigmnhaa
set_option linter.unusedSimpArgs false
set_option linter.unusedVariables false
open Go.RowKit
/- Lk -/
def in47 (n : Int) : Bool := decide (-140737488355328 ≤ n ∧ n ≤ 140737488355328)
def foN (f : Fo) : List Int := [f.x0, f.y0, f.x1, f.y1]
def numsL (L : List Fo) (a b y : Int) : List Int := [a, b, y] ++ (L.map foN).flatten
def sideB (f : Fo) : Bool := decide (f.s = 1 ∨ f.s = 2)
def near13 (L : List Fo) (a b y : Int) : Bool := L.all sideB && (numsL L a b y).all in47 && decide (a ≤ b)
def iC (n : Int) : List Value := [.int .i64 n]
theorem iC_len (n : Int) : (iC n).length = 1 := rfl
theorem iC_one (n : Int) : ∀ u ∈ iC n, u.oneCell' = true := by simp [iC, Value.oneCell']
theorem iElem : Elem Try.prog 22 3 1 8 := ⟨Try.underlying22, by kernel_rfl, by decide, by decide⟩
theorem nums_snoc (L : List Fo) (a b y : Int) (i : Nat) (h : i < L.length) : numsL (L.take (i + 1)) a b y = numsL (L.take i) a b y ++ foN (foAt L i) := by
  unfold numsL
  rw [List.take_succ_eq_append_getElem h, List.map_append, List.flatten_append, foAt_eq L i h]
  simp
theorem near13_side {L : List Fo} {a b y : Int} {i : Nat} (hi : i < L.length) (h : sideB (foAt L i) = false) : near13 L a b y = false := by
  unfold near13
  rw [show L.all sideB = false from by
    rw [List.all_eq_false]
    exact ⟨L[i], List.getElem_mem hi, by rw [← foAt_eq L i hi, h]; decide⟩]
  rfl
theorem nums_len (L : List Fo) (a b y : Int) : (numsL L a b y).length = 3 + L.length * 4 := by
  unfold numsL
  rw [List.length_append]
  have : (L.map foN).flatten.length = L.length * 4 := by
    induction L with
    | nil => rfl
    | cons f l ih => simp only [List.map_cons, List.flatten_cons, List.length_append, ih, List.length_cons]; simp [foN]; omega
  rw [this]
  rfl
def NrI (L : List Fo) (a b y : Int) (w : World) (v : Value) (i : Nat) (wr : World) : Prop := OwnSl iC 1 3 wr w.heap.size v (numsL (L.take i) a b y) ∧ Below w.heap.size w wr ∧ ∀ j, j < i → sideB (foAt L j) = true
set_option maxRecDepth 20000 in
set_option maxHeartbeats 4000000 in
theorem near13_any (v : Value) (L : List Fo) (a b y : Int) (w : World) (h : IsFos w v L) (hL : L.length ≤ 100000) : Calls Try.prog 64 #[v, .int .i64 a, .int .i64 b, .int .i64 y] w fun e w' => e = .returned (.bool (near13 L a b y)) ∧ Below w.heap.size w w' := by
  obtain ⟨A, cap, rfl, hc, hA⟩ := id h
  have HA := Lib.hid hA
  obtain ⟨res, hres⟩ : ∃ r, near13 L a b y = r := ⟨_, rfl⟩
  rw [hres]
  have HR := Lib.hid hres
  clear hres hA hc h
  have h0 : NrI L a b y w (.slice (some ⟨w.heap.size, 0, none⟩) 3 3) 0 (w.alloc (.cells #[.int .i64 a, .int .i64 b, .int .i64 y] 3)) := by
    refine ⟨⟨rfl, .inr ⟨w.heap.size, 3, #[.int .i64 a, .int .i64 b, .int .i64 y], rfl, Nat.le_refl _, heap_alloc_new w _, Nat.le_refl _, by unfold maxLen; omega, rfl, rfl⟩⟩, (Below.refl _ _).alloc (Nat.le_refl _) _, fun j hj => absurd hj (by omega)⟩
  have H0 := Lib.hid h0
  clear h0
  go_enter Try.func64, Try.ntmps64
  go_wp2_with fail
  go_loopw [9, 10] (fun v x wr => ∃ i : Nat, i ≤ L.length ∧ x = .int .i64 i ∧ Hid (NrI L a b y w v i wr)) (fun _ x _ => L.length - (intOf x).toNat)
  case atStart => exact ⟨0, by omega, rfl, H0⟩
  case round =>
    obtain ⟨i, hi, rfl, hI⟩ := hrel
    by_cases hlt : i < L.length
    · obtain ⟨g, o, rfl, hg, hs⟩ := HA.out (by omega)
      obtain ⟨ad, cv, rfl, _⟩ := hI.out.1.form
      have hgl : g < wr.heap.size := by have := hI.out.2.1.size; omega
      have hcs : wr.rangeAt g (o + i * 5) (foC (foAt L i)) := fun j v hv => (hI.out.2.1.cell (p := ⟨g, o + i * 5 + j, none⟩) hg).trans (hs i hlt j v hv)
      have HCS := Lib.hid hcs
      have HK : Hid (∀ w', Below wr.heap.size wr w' → w'.cell? ⟨g, o + i * 5, none⟩ = some (.int .i64 (foAt L i).s) ∧ w'.cell? ⟨g, o + i * 5 + 1, none⟩ = some (.int .i64 (foAt L i).x0) ∧ w'.cell? ⟨g, o + i * 5 + 2, none⟩ = some (.int .i64 (foAt L i).y0) ∧ w'.cell? ⟨g, o + i * 5 + 3, none⟩ = some (.int .i64 (foAt L i).x1) ∧ w'.cell? ⟨g, o + i * 5 + 4, none⟩ = some (.int .i64 (foAt L i).y1)) := Lib.hid fun w' e =>
        have h1 := fo_cells (fun j v hv => (e.cell (p := ⟨g, o + i * 5 + j, none⟩) hgl).trans (HCS.out j v hv))
        h1
      have HNL : Hid ((numsL (L.take i) a b y).length ≤ 1000000) := Lib.hid (by rw [nums_len, List.length_take]; omega)
      clear hs hcs HCS
      have hsc := side_cases (foAt L i).s
      have HSN : Hid (¬ ((foAt L i).s = 1 ∨ (foAt L i).s = 2) → near13 L a b y = false) := Lib.hid fun h => near13_side hlt (decide_eq_false h)
      have HSY : Hid (((foAt L i).s = 1 ∨ (foAt L i).s = 2) → ∀ j, j < i + 1 → sideB (foAt L j) = true) := Lib.hid fun h j hj => by
        by_cases e : j = i
        · rw [e]; exact decide_eq_true h
        · exact hI.out.2.2 j (by omega)
      have HSNOC := Lib.hid (nums_snoc L a b y i hlt)
      have hwz := hI.out.2.1.size
      have hll : (L.take i).length ≤ 100000 := by rw [List.length_take]; omega
      have HIO := hI.out.1
      have HIB := Lib.hid hI.out.2.1
      clear hI
      obtain ⟨NL, hNL⟩ : ∃ l, numsL (L.take i) a b y = l := ⟨_, rfl⟩
      rw [hNL] at HIO HSNOC HNL ⊢
      have HIO := Lib.hid HIO
      clear hNL
      generalize hF : foAt L i = F at *
      obtain ⟨fs, f0, f1, f2, f3⟩ := F
      simp only at hsc HSN HSY HK
      have c0 := (HK.out wr (Below.refl _ _)).1
      go_wp2_with fail
      (refine wp_region_laid_l (by kernel_rfl) [⟨true, 47, 3, 25, some 4⟩] 26 (by kernel_rfl) (by kernel_rfl) ?_; (repeat (first | (refine wpLex_laid (by rfl) ?_) | (refine wpLex_no (by rfl) (by rfl) ?_; go_simp) | (refine wpLex_val (by rfl) (by rfl) _ (by intro wq hq; have hSw := HK.out wq hq; (try dsimp only at hSw); go_simp; rfl) ?_; go_simp))); refine wpLex_zero ?_)
      refine lend_new #[.int .i64 f0, .int .i64 f1, .int .i64 f2, .int .i64 f3] _ rfl rfl (fun w => by go_simp; simp [go_sem, Laid.val]) fun bn w1 hbn hB1 g1 => ?_
      simp only [Laid.val, Act.put, List.setIfInBounds_toArray, List.set_cons_zero, List.set_cons_succ]
      have HB1 := Lib.hid (show Below wr.heap.size wr w1 from hB1)
      have HOWN := Lib.hid (HIO.out.below hB1)
      have HNW := Lib.hid (show w1.rangeAt bn 0 (flat iC [f0, f1, f2, f3]) from fun j v hv => by rw [cell_of_row w1 bn (0 + j) _ _ (0, 0) g1, Nat.zero_add]; simpa [flat, iC] using hv)
      have hz1 := hB1.size
      clear hB1 g1
      go_wp2_with (first
        | (at_builtin; refine sl_appends _ iElem iC_len iC_one rfl (.tmp 22) (.tmp 47) rfl w.heap.size _ _ (by rfl) HOWN.out [f0, f1, f2, f3] bn 0 4 4 rfl (by rfl) HNW.out (by have := HNL.out; simp only [List.length_cons, List.length_nil]; omega) (by omega) ?_; intro v3 w3 ho3 hg3 hw3; obtain ⟨ad3, cap3, rfl, hcap3⟩ := ho3.form; clear hcap3; have HB3 := Lib.hid (show Below w.heap.size w w3 from ((HIB.out.trans (HB1.out.mono (by omega))).grown hg3 (by omega) (fun j hj => HOWN.out.from_ hj))); have HO4 := Lib.hid ho3; clear ho3 hg3 hw3; have c3 : w3.cell? ⟨g, o + i * 5, none⟩ = some (.int .i64 fs) := (HB3.out.cell (p := ⟨g, o + i * 5, none⟩) hg).trans ((HIB.out.cell (p := ⟨g, o + i * 5, none⟩) hg).symm.trans c0)))
      · rename_i h1
        have HY := Lib.hid (HSY.out (.inl h1))
        go_roundw
        case rel => exact ⟨i + 1, by omega, by go_num, Lib.hid ⟨by have h := HO4.out; rw [List.length_append] at h; rw [HSNOC.out]; exact h, HB3.out, HY.out⟩⟩
        case measure => simp [intOf]; omega
      · rename_i h1 h2
        have hf := HSN.out (by rintro (h | h); exact h1 h; rw [h] at h2; simp at h2)
        rw [HR.out] at hf
        subst hf
        go_ret
        exact ⟨rfl, HB3.out⟩
      · rename_i h1 h2
        have HY := Lib.hid (HSY.out (.inr (by rcases h2 with h | h <;> simp at h; exact absurd h h1; exact h)))
        go_roundw
        case rel => exact ⟨i + 1, by omega, by go_num, Lib.hid ⟨by have h := HO4.out; rw [List.length_append] at h; rw [HSNOC.out]; exact h, HB3.out, HY.out⟩⟩
        case measure => simp [intOf]; omega
    · have hir : i = L.length := by omega
      subst hir
      have h1 := hI.out.1
      rw [List.take_length] at h1
      have HS1 := Lib.hid (show L.all sideB = true from List.all_eq_true.2 fun f hf => by
        obtain ⟨j, hj, rfl⟩ := List.getElem_of_mem hf
        rw [← foAt_eq L j hj]
        exact hI.out.2.2 j hj)
      have HB0 := Lib.hid hI.out.2.1
      have HNR := Lib.hid (show res = ((numsL L a b y).all in47 && decide (a ≤ b)) by rw [← HR.out]; unfold near13; rw [HS1.out, Bool.true_and])
      obtain ⟨NL, hNL⟩ : ∃ l, numsL L a b y = l := ⟨_, rfl⟩
      have HLN : Hid (NL.length ≤ 1000000) := Lib.hid (by rw [← hNL, nums_len]; omega)
      rw [hNL] at h1 HNR
      have hsl := h1.is iC_len (by decide)
      obtain ⟨A2, cap2, rfl, hc2, HA2⟩ := hsl
      clear hI HS1 HR hlt hi h1 hc2 hNL
      go_wp2_with fail
      go_loop [11] (fun x => ∃ k : Nat, k ≤ NL.length ∧ x = .int .i64 k ∧ Hid (∀ j (h : j < NL.length), j < k → in47 NL[j] = true)) (fun x => NL.length - (intOf x).toNat)
      case atStart => exact ⟨0, by omega, rfl, Lib.hid (fun j _ hj => by omega)⟩
      case round =>
        obtain ⟨k, hk, rfl, hK⟩ := hrel
        by_cases hlt : k < NL.length
        · obtain ⟨g, o, rfl, hg, hs⟩ := HA2.out (by omega)
          have c0 : wr.cell? ⟨g, o + k, none⟩ = some (.int .i64 NL[k]) := by have := hs k hlt 0 _ rfl; rw [Nat.mul_one] at this; exact this
          have hnl := HLN.out
          have HN : Hid (in47 NL[k] = false → res = false) := Lib.hid fun h => by
            rw [HNR.out, show NL.all in47 = false from List.all_eq_false.2 ⟨NL[k], List.getElem_mem hlt, by rw [h]; decide⟩]
            rfl
          have HY : Hid (in47 NL[k] = true → ∀ j (h : j < NL.length), j < k + 1 → in47 NL[j] = true) := Lib.hid fun h j hj hjk => by
            by_cases e : j = k
            · subst e; exact h
            · exact hK.out j hj (by omega)
          clear hs hK
          generalize NL[k] = z at *
          have hcs : (140737488355328 < z ∧ in47 z = false) ∨ (¬ 140737488355328 < z ∧ z < -140737488355328 ∧ in47 z = false) ∨ (¬ 140737488355328 < z ∧ ¬ z < -140737488355328 ∧ in47 z = true) := by
            unfold in47
            by_cases h1 : 140737488355328 < z
            · exact .inl ⟨h1, decide_eq_false (by omega)⟩
            · by_cases h2 : z < -140737488355328
              · exact .inr (.inl ⟨h1, h2, decide_eq_false (by omega)⟩)
              · exact .inr (.inr ⟨h1, h2, decide_eq_true (by omega)⟩)
          rcases hcs with ⟨d1, hn⟩ | ⟨d1, d2, hn⟩ | ⟨d1, d2, hn⟩
          · obtain rfl := HN.out hn
            clear hn HY HN
            go_wp2_with fail
            go_ret
            exact ⟨rfl, HB0.out⟩
          · obtain rfl := HN.out hn
            clear hn HY HN
            go_wp2_with fail
            go_ret
            exact ⟨rfl, HB0.out⟩
          · have HK := Lib.hid (HY.out hn)
            clear hn HY HN
            go_wp2_with fail
            go_round
            case rel => exact ⟨k + 1, by omega, by go_num, HK⟩
            case measure => simp [intOf]; omega
        · have hir : k = NL.length := by omega
          subst hir
          have hal : NL.all in47 = true := List.all_eq_true.2 fun z hz => by
            obtain ⟨j, hj, rfl⟩ := List.getElem_of_mem hz
            exact hK.out j hj hj
          have hnr := HNR.out
          rw [hal, Bool.true_and] at hnr
          have HNR2 := Lib.hid hnr
          clear hal hnr hK hlt
          go_wp2_with fail
          go_ret
          rw [HNR2.out]
          exact ⟨by first | rfl | (congr; simp; done) | trace_state, HB0.out⟩
/- Right -/
def szB (z : Int × Int) : Bool := decide (0 ≤ z.1 ∧ z.1 ≤ 2147483648) && decide (0 ≤ z.2 ∧ z.2 ≤ 2147483648)
theorem szB_ok {z : Int × Int} (h : szB z = true) : szOk z := by
  unfold szB at h
  simp only [Bool.and_eq_true, decide_eq_true_eq] at h
  exact h
theorem sz_cases (z : Int × Int) : (z.1 < 0 ∧ szB z = false) ∨ (¬ z.1 < 0 ∧ 2147483648 < z.1 ∧ szB z = false) ∨ (¬ z.1 < 0 ∧ ¬ 2147483648 < z.1 ∧ z.2 < 0 ∧ szB z = false) ∨ (¬ z.1 < 0 ∧ ¬ 2147483648 < z.1 ∧ ¬ z.2 < 0 ∧ 2147483648 < z.2 ∧ szB z = false) ∨ (¬ z.1 < 0 ∧ ¬ 2147483648 < z.1 ∧ ¬ z.2 < 0 ∧ ¬ 2147483648 < z.2 ∧ szB z = true) := by
  unfold szB
  by_cases h1 : z.1 < 0
  · exact .inl ⟨h1, by simp; omega⟩
  · by_cases h2 : 2147483648 < z.1
    · exact .inr (.inl ⟨h1, h2, by simp; omega⟩)
    · by_cases h3 : z.2 < 0
      · exact .inr (.inr (.inl ⟨h1, h2, h3, by simp; omega⟩))
      · by_cases h4 : 2147483648 < z.2
        · exact .inr (.inr (.inr (.inl ⟨h1, h2, h3, h4, by simp; omega⟩)))
        · exact .inr (.inr (.inr (.inr ⟨h1, h2, h3, h4, by simp; omega⟩)))
theorem sz_cells {w : World} {g o : Nat} {z : Int × Int} (h : w.rangeAt g o (szC z)) : w.cell? ⟨g, o, none⟩ = some (.int .i64 z.1) ∧ w.cell? ⟨g, o + 1, none⟩ = some (.int .i64 z.2) := ⟨h 0 _ rfl, h 1 _ rfl⟩
set_option maxRecDepth 20000 in
set_option maxHeartbeats 4000000 in
theorem right13_any (v : Value) (zs : List (Int × Int)) (w : World) (h : IsSl szC 2 w v zs) (hL : zs.length ≤ maxLen) : Calls Try.prog 30 #[v] w fun e w' => e = .returned (.bool (zs.all szB)) ∧ w = w' := by
  obtain ⟨A, cap, rfl, hc, HA⟩ := id h
  obtain ⟨res, hres⟩ : ∃ r, zs.all szB = r := ⟨_, rfl⟩
  rw [hres]
  have HR := Lib.hid hres
  unfold maxLen at hL
  clear hres hc h
  go_enter Try.func30, Try.ntmps30
  go_wp2_with fail
  go_loop [3] (fun x => ∃ i : Nat, i ≤ zs.length ∧ x = .int .i64 i ∧ Hid (∀ j (h : j < zs.length), j < i → szB zs[j] = true)) (fun x => zs.length - (intOf x).toNat)
  case atStart => exact ⟨0, by omega, rfl, Lib.hid (fun j _ hj => by omega)⟩
  case round =>
    obtain ⟨i, hi, rfl, hI⟩ := hrel
    by_cases hlt : i < zs.length
    · obtain ⟨g, o, rfl, hg, hs⟩ := HA.out (by omega)
      obtain ⟨c0, c1⟩ := sz_cells (hs i hlt)
      have HN : Hid (szB zs[i] = false → res = false) := Lib.hid fun h => by
        rw [← HR.out]
        exact List.all_eq_false.2 ⟨zs[i], List.getElem_mem hlt, by rw [h]; decide⟩
      have HY : Hid (szB zs[i] = true → ∀ j (h : j < zs.length), j < i + 1 → szB zs[j] = true) := Lib.hid fun h j hj hjk => by
        by_cases e : j = i
        · subst e; exact h
        · exact hI.out j hj (by omega)
      have hcs := sz_cases zs[i]
      clear hs hI
      generalize hz : zs[i] = z at *
      obtain ⟨z1, z2⟩ := z
      simp only at hcs c0 c1
      rcases hcs with ⟨d1, hn⟩ | ⟨d1, d2, hn⟩ | ⟨d1, d2, d3, hn⟩ | ⟨d1, d2, d3, d4, hn⟩ | ⟨d1, d2, d3, d4, hn⟩
      iterate 4
        · obtain rfl := HN.out hn
          clear hn HY HN hz
          go_wp2_with fail
          go_ret
          exact ⟨rfl, rfl⟩
      · have HK := Lib.hid (HY.out hn)
        clear hn HY HN hz
        go_wp2_with fail
        go_round
        case rel => exact ⟨i + 1, by omega, by go_num, HK⟩
        case measure => simp [intOf]; omega
    · have hir : i = zs.length := by omega
      subst hir
      have hal : res = true := by
        rw [← HR.out]
        exact List.all_eq_true.2 fun z hz => by
          obtain ⟨j, hj, rfl⟩ := List.getElem_of_mem hz
          exact hI.out j hj hj
      subst hal
      clear hI HR hlt
      go_wp2_with fail
      go_ret
      exact ⟨rfl, rfl⟩
/- Of -/
theorem szC_len (z : Int × Int) : (szC z).length = 2 := rfl
theorem szC_one (z : Int × Int) : ∀ u ∈ szC z, u.oneCell' = true := by simp [szC, Value.oneCell']
theorem szElem : Elem Try.prog 62 76 2 16 := ⟨Try.underlying62, by kernel_rfl, by decide, by decide⟩
theorem rszInfo : (Try.prog.info? 67).map (·.size) = some 2 := by kernel_rfl
theorem sl_slice_form {n : Nat} {A : Option Addr} {cap : Nat} : Value.slice A n cap = .slice A n cap := rfl
set_option maxRecDepth 20000 in
set_option maxHeartbeats 4000000 in
theorem of13_any (v : Value) (zs : List (Int × Int)) (w : World) (h : IsSl szC 2 w v zs) (hL : zs.length ≤ 1000000) : Calls Try.prog 32 #[v] w fun e w' => ∃ v', e = .returned v' ∧ OwnSl szC 2 76 w' w.heap.size v' zs ∧ Below w.heap.size w w' := by
  obtain ⟨A, cap, rfl, hc, HA⟩ := id h
  clear hc h
  have H0 : Hid (OwnSl szC 2 76 w w.heap.size (.slice none 0 0) (zs.take 0) ∧ Below w.heap.size w w) := Lib.hid ⟨OwnSl.nil (.inl (by decide)) _ _ _, Below.refl _ _⟩
  go_enter Try.func32, Try.ntmps32
  go_wp2_with fail
  go_loopw [3, 8] (fun v x wr => ∃ i : Nat, i ≤ zs.length ∧ x = .int .i64 i ∧ Hid (OwnSl szC 2 76 wr w.heap.size v (zs.take i) ∧ Below w.heap.size w wr)) (fun _ x _ => zs.length - (intOf x).toNat)
  case atStart => exact ⟨0, by omega, rfl, H0⟩
  case round =>
    obtain ⟨i, hi, rfl, hI⟩ := hrel
    by_cases hlt : i < zs.length
    · obtain ⟨g, o, rfl, hg, hs⟩ := HA.out (by omega)
      obtain ⟨ad, cv, rfl, _⟩ := hI.out.1.form
      have hgl : g < wr.heap.size := by have := hI.out.2.size; omega
      have hz := hI.out.2.size
      obtain ⟨c0, c1⟩ := sz_cells (show wr.rangeAt g (o + i * 2) (szC zs[i]) from fun j v hv => (hI.out.2.cell (p := ⟨g, o + i * 2 + j, none⟩) hg).trans (hs i hlt j v hv))
      have HT := Lib.hid (show zs.take (i + 1) = zs.take i ++ [zs[i]] from List.take_succ_eq_append_getElem hlt)
      have HIO := hI.out.1
      have HIB := Lib.hid hI.out.2
      obtain ⟨NL, hNL⟩ : ∃ l, zs.take i = l := ⟨_, rfl⟩
      have HLE : Hid (NL.length ≤ 1000000) := Lib.hid (by rw [← hNL, List.length_take]; omega)
      rw [hNL] at HIO HT ⊢
      have HIO := Lib.hid HIO
      clear hNL hs hI
      generalize zs[i] = z at *
      obtain ⟨z1, z2⟩ := z
      simp only at c0 c1
      have hB2 : Below wr.heap.size wr ((wr.alloc (.cells #[.int .i64 z1, .int .i64 z2] 67)).alloc (.cells #[.int .i64 z1, .int .i64 z2] 76)) := ((Below.refl _ _).alloc (Nat.le_refl _) _).alloc (by simp) _
      have HOWN := Lib.hid (HIO.out.below hB2)
      have HB2 := Lib.hid hB2
      have hnw : ((wr.alloc (.cells #[.int .i64 z1, .int .i64 z2] 67)).alloc (.cells #[.int .i64 z1, .int .i64 z2] 76)).rangeAt (wr.heap.size + 1) 0 (szC (z1, z2)) := by
        have h := range_new (wr.alloc (.cells #[.int .i64 z1, .int .i64 z2] 67)) (szC (z1, z2)) 76
        rw [show (wr.alloc (.cells #[.int .i64 z1, .int .i64 z2] 67)).heap.size = wr.heap.size + 1 by simp] at h
        exact h
      have HNW := Lib.hid hnw
      clear hB2 hnw
      go_wp2_with (first
        | ((with_reducible refine store_new (dst := none) 67 (.tmp 5) (.tmp 11) wr _ #[.int .i64 z1, .int .i64 z2] 67 rfl ?_ ?_ ?_ ?_ ?_ ?_); rfl; rfl; exact rszInfo; rfl; (simp [Value.oneCell']))
        | (at_builtin; refine sl_append _ szElem szC_len szC_one rfl (.tmp 12) (.tmp 14) rfl w.heap.size _ _ (by rfl) HOWN.out (z1, z2) (wr.heap.size + 1) 1 (by rfl) HNW.out (by have := HLE.out; omega) (by simp; omega) ?_; intro v3 w3 ho3 hg3 hw3; obtain ⟨ad3, cap3, rfl, hcap3⟩ := ho3.form; clear hcap3; have HB3 := Lib.hid (show Below w.heap.size w w3 from ((HIB.out.trans (HB2.out.mono (by omega))).grown hg3 (by simp; omega) (fun j hj => HOWN.out.from_ hj))); have HO4 := Lib.hid ho3; clear ho3 hg3 hw3))
      go_roundw
      case rel => exact ⟨i + 1, by omega, by go_num, Lib.hid ⟨by have h := HO4.out; rw [List.length_append] at h; rw [HT.out]; exact h, HB3.out⟩⟩
      case measure => simp [intOf]; omega
    · have hir : i = zs.length := by omega
      subst hir
      have h1 := hI.out.1
      rw [List.take_length] at h1
      have H1 := Lib.hid h1
      have HB := Lib.hid hI.out.2
      clear h1 hI hlt
      go_wp2_with fail
      go_ret
      exact ⟨_, rfl, H1.out, HB.out⟩
/- Ll -/
structure Near13 (L : List Fo) (a b y : Int) : Prop where
  hf : ∀ f ∈ L, (-140737488355328 ≤ f.x0 ∧ f.x0 ≤ 140737488355328) ∧ (-140737488355328 ≤ f.y0 ∧ f.y0 ≤ 140737488355328) ∧ (-140737488355328 ≤ f.x1 ∧ f.x1 ≤ 140737488355328) ∧ (-140737488355328 ≤ f.y1 ∧ f.y1 ≤ 140737488355328) ∧ (f.s = 1 ∨ f.s = 2)
  ha : -140737488355328 ≤ a ∧ a ≤ 140737488355328
  hb : -140737488355328 ≤ b ∧ b ≤ 140737488355328
  hy : -140737488355328 ≤ y ∧ y ≤ 140737488355328
  le : a ≤ b
theorem near13_of {L : List Fo} {a b y : Int} (h : near13 L a b y = true) : Near13 L a b y := by
  unfold near13 at h
  simp only [Bool.and_eq_true, decide_eq_true_eq] at h
  obtain ⟨⟨h1, h2⟩, h3⟩ := h
  have hn : ∀ n ∈ numsL L a b y, -140737488355328 ≤ n ∧ n ≤ 140737488355328 := fun n hn => by
    have := List.all_eq_true.1 h2 n hn
    unfold in47 at this
    exact of_decide_eq_true this
  have hf : ∀ f ∈ L, ∀ n ∈ foN f, n ∈ numsL L a b y := fun f hf n hn => List.mem_append_right _ (List.mem_flatten.2 ⟨_, List.mem_map.2 ⟨f, hf, rfl⟩, hn⟩)
  refine ⟨fun f hfl => ⟨hn _ (hf f hfl _ (by simp [foN])), hn _ (hf f hfl _ (by simp [foN])), hn _ (hf f hfl _ (by simp [foN])), hn _ (hf f hfl _ (by simp [foN])), ?_⟩, hn a (by simp [numsL]), hn b (by simp [numsL]), hn y (by simp [numsL]), h3⟩
  have := List.all_eq_true.1 h1 f hfl
  unfold sideB at this
  exact of_decide_eq_true this
theorem Near13.small {L : List Fo} {a b y : Int} (h : Near13 L a b y) : ∀ f ∈ L, smallF f = true := fun f hf => by
  obtain ⟨h0, h1, h2, h3, _⟩ := h.hf f hf
  unfold smallF smallR smI
  simp only [Bool.and_eq_true, decide_eq_true_eq]
  omega
theorem Near13.tops {L : List Fo} {a b y : Int} (h : Near13 L a b y) : ∀ s ∈ full (shelves L), s.t ≤ 140737488355328 := fun s hs => by
  rcases List.mem_cons.1 hs with rfl | hs
  · decide
  · obtain ⟨f, hf, e⟩ := tops_in L s hs
    have h2 := h.hf f hf
    rcases e with e | e <;> (rw [e]; omega)
theorem Near13.ok {L : List Fo} {a b y : Int} (h : Near13 L a b y) (hl : L.length ≤ 100000) : SpOk L := ⟨fun f hf => by
    have h2 := h.hf f hf
    unfold far
    first | omega | (constructor <;> omega) | trace_state, hl⟩
set_option maxRecDepth 20000 in
set_option maxHeartbeats 4000000 in
theorem begin13_no (v : Value) (L : List Fo) (a b y : Int) (w : World) (h : IsFos w v L) (hL : L.length ≤ maxLen) (hn : ¬ (near13 L a b y = true ∧ (L.length : Int) ≤ 20)) : Calls Try.prog 28 #[v, .int .i64 a, .int .i64 b, .int .i64 y] w fun e w' => e = .returned (.pointer none) ∧ Below w.heap.size w w' := by
  by_cases h1 : (L.length : Int) ≤ 20
  · have hn2 : near13 L a b y = false := by
      cases e : near13 L a b y with
      | true => exact absurd ⟨e, h1⟩ hn
      | false => rfl
    have HNR := Lib.hid (near13_any v L a b y w h (by omega))
    rw [hn2] at HNR
    obtain ⟨A, cap, rfl, hc, hA⟩ := id h
    clear hA hc h hn hn2
    go_enter Try.func28, Try.ntmps28
    go_wp2_with fail
    refine HNR.out.mono ?_
    rintro e w2 ⟨rfl, hb⟩
    have HB := Lib.hid hb
    clear hb
    go_wp2_with fail
    go_ret
    exact ⟨rfl, HB.out⟩
  · obtain ⟨A, cap, rfl, hc, hA⟩ := id h
    clear hA hc h hn
    unfold maxLen at hL
    go_enter Try.func28, Try.ntmps28
    go_wp2_with fail
    go_ret
    exact ⟨rfl, Below.refl _ _⟩
set_option maxRecDepth 20000 in
set_option maxHeartbeats 4000000 in
theorem begin13_yes (v : Value) (L : List Fo) (a b y : Int) (w : World) (h : IsFos w v L) (hn : near13 L a b y = true) (hl : (L.length : Int) ≤ 20) : Calls Try.prog 28 #[v, .int .i64 a, .int .i64 b, .int .i64 y] w (BegSpPost L w) := by
  have HNR := Lib.hid (near13_any v L a b y w h (by omega))
  rw [hn] at HNR
  have hno := near13_of hn
  have HBG := Lib.hid (fun w' (hb : Below w.heap.size w w') => begin10_any v L w' (h.below hb (Nat.le_refl _)) (by omega) hno.small (fun f hf => (hno.hf f hf).2.2.2.2))
  obtain ⟨A, cap, rfl, hc, hA⟩ := id h
  clear hA hc h hn hno
  go_enter Try.func28, Try.ntmps28
  go_wp2_with fail
  refine HNR.out.mono ?_
  rintro e w2 ⟨rfl, hb⟩
  have HB := Lib.hid hb
  clear hb
  go_wp2_with fail
  refine (HBG.out w2 HB.out).mono ?_
  rintro e w3 ⟨sp, rfl, hs, hb3⟩
  have HS := Lib.hid hs
  have HB3 := Lib.hid hb3
  clear hs hb3
  go_wp2_with fail
  go_ret
  exact ⟨sp, rfl, HS.out.mono HB.out.size, HB.out.trans (HB3.out.mono HB.out.size)⟩
theorem isSl_new {α : Type} {C : α → List Value} {n : Nat} (hC : ∀ a, (C a).length = n) (w : World) (L : List α) (T : TypeId) (c : Array Value) (hc : c = (flat C L).toArray) (m : Nat) (hm : m = L.length) : IsSl C n (w.alloc (.cells c T)) (.slice (some ⟨w.heap.size, 0, none⟩) m m) L := by
  subst hc
  subst hm
  refine ⟨_, L.length, rfl, Nat.le_refl _, Lib.hid fun _ => ⟨w.heap.size, 0, rfl, by simp, fun k hk j v hv => ?_⟩⟩
  have hj : j < n := by rw [← hC L[k]]; exact (List.getElem?_eq_some_iff.1 hv).1
  rw [Nat.zero_add, cell_of_row _ _ _ _ _ (0, 0) (heap_alloc_new w _)]
  rw [List.getElem?_toArray, flat_get hC L k j hk hj]
  exact hv
/- speaks -/
def spkZ : List (Int × Int) := [(4, 1), (4, 2), (4, 1)]
theorem spk13 : lnAll [] 0 10 0 spkZ = [⟨0, 0, 10, 2, 2, 8⟩, ⟨0, 2, 10, 3, 1, 4⟩] := by rfl
theorem spk13_tops : ∀ s ∈ full (shelves []), s.t ≤ 0 := fun s hs => by
  rcases List.mem_cons.1 hs with rfl | hs
  · decide
  · obtain ⟨f, hf, _⟩ := tops_in [] s hs
    cases hf
set_option maxRecDepth 20000 in
set_option maxHeartbeats 4000000 in
theorem speaks13_any (w : World) : Calls Try.prog 29 #[] w fun e w' => e = .returned (.bool true) ∧ Below w.heap.size w w' := by
  have hal := fun (v : Value) (base sp : Nat) (w : World) (hs : SpaceIs w base sp []) (hv : IsSl szC 2 w v spkZ) => all_any13 [] 0 0 10 0 spkZ v base sp w hs hv (fun z hz => by simp only [spkZ, List.mem_cons, List.not_mem_nil, or_false] at hz; rcases hz with rfl | rfl | rfl <;> (unfold szOk; decide)) (by decide) ⟨fun f hf => (by cases hf), by decide⟩ (fun f hf => (by cases hf)) spk13_tops (by decide) (by decide) (by decide) (by decide)
  unfold LAllPost at hal
  rw [spk13] at hal
  have HAL := Lib.hid hal
  clear hal
  go_enter Try.func29, Try.ntmps29
  go_wp2_with fail
  refine (spnew_any w).mono ?_
  rintro e w1 ⟨sp, rfl, hs1, hb1⟩
  have HS1 := Lib.hid hs1
  have HB1 := Lib.hid hb1
  clear hs1 hb1
  go_wp2_with fail
  refine (lnew_any _ _ _ _ _).mono ?_
  rintro e w2 ⟨bb, rfl, g1, hl1, hb2⟩
  have HS2 := Lib.hid (HS1.out.below hb2 (Nat.le_refl _))
  have HB2 := Lib.hid (HB1.out.trans (hb2.mono HB1.out.size))
  clear g1 hl1 hb2
  go_wp2_with fail
  have hnb := (Below.refl w2.heap.size w2).alloc (Nat.le_refl _) (.cells #[.int .i64 4, .int .i64 1, .int .i64 4, .int .i64 2, .int .i64 4, .int .i64 1] 76)
  have hsl := isSl_new szC_len w2 spkZ 76 #[.int .i64 4, .int .i64 1, .int .i64 4, .int .i64 2, .int .i64 4, .int .i64 1] rfl 3 rfl
  refine (HAL.out _ _ sp _ (HS2.out.below hnb (Nat.le_refl _)) hsl).mono ?_
  rintro e w3 ⟨v, rfl, ho, hb3⟩
  have HB3 := Lib.hid (HB2.out.trans ((hnb.trans (hb3.mono hnb.size)).mono HB2.out.size))
  have hsl := ho.is lnqC_len (by decide)
  obtain ⟨A, cap, rfl, hcap, hA⟩ := hsl
  obtain ⟨g, o, rfl, hg, hs⟩ := hA.out (by decide)
  have hs0 := hs 0 (by decide)
  have hs1 := hs 1 (by decide)
  have c4 : w3.cell? ⟨g, o + 4, none⟩ = some (.int .i64 2) := by have := hs0 4 _ rfl; simpa using this
  have d4 : w3.cell? ⟨g, o + 10, none⟩ = some (.int .i64 1) := by have := hs1 4 _ rfl; simpa [Nat.add_assoc] using this
  have d1 : w3.cell? ⟨g, o + 7, none⟩ = some (.int .i64 2) := by have := hs1 1 _ rfl; simpa [Nat.add_assoc] using this
  clear hnb hb3 ho hA hs hs0 hs1 hcap
  simp only [List.length_cons, List.length_nil]
  go_wp2_with fail
  go_ret
  exact ⟨rfl, HB3.out⟩
/- Lp -/
def wideL (l : List (Int × Int)) : Int := (l.map (·.1)).sum
def highL (l : List (Int × Int)) : Int := l.foldl (fun n z => max n z.2) 0
theorem wideL_snoc (l : List (Int × Int)) (z : Int × Int) : wideL (l ++ [z]) = wideL l + z.1 := by simp [wideL]
theorem highL_snoc (l : List (Int × Int)) (z : Int × Int) : highL (l ++ [z]) = max (highL l) z.2 := by simp [highL]
/-- A line that is made of these atoms, beginning at or below y. -/
structure LineP (L : List Fo) (a b y : Int) (part : List (Int × Int)) (q : Lnq) : Prop where
  ne : part ≠ []
  hn : q.n = part.length
  hd : q.d = wideL part
  ht : ∀ z r, part = z :: r → q.t = topQ L a b y z.1 z.2
  hb : q.b = q.t + highL part
  box : q.l = (freeS L a b q.t (highL part)).1 ∧ q.r = (freeS L a b q.t (highL part)).2
  fit : 1 < part.length → q.d ≤ q.r - q.l
theorem begQ_line (L : List Fo) (a b y : Int) (z : Int × Int) (hz : 0 ≤ z.2) : LineP L a b y [z] (begQ L a b y z.1 z.2) := by
  have hh : highL [z] = z.2 := by simp [highL]; omega
  refine ⟨by simp, by simp [begQ], by simp [begQ, wideL], fun z' r e => ?_, by rw [hh]; rfl, by rw [hh]; exact ⟨rfl, rfl⟩, fun h => absurd h (by simp)⟩
  injection e with e1 e2
  subst e1
  rfl
theorem nextQ_line {L : List Fo} {a b y : Int} {part : List (Int × Int)} {q : Lnq} (h : LineP L a b y part q) (z : Int × Int) (hf : fitsQ L a b q z.1 z.2 = true) : LineP L a b y (part ++ [z]) (nextQ L a b q z.1 z.2) := by
  obtain ⟨h1, h2, h3, h4, h5, h6, h7⟩ := h
  have hh : highQ q z.2 = highL (part ++ [z]) := by rw [highL_snoc]; unfold highQ; rw [h5]; congr 1; omega
  refine ⟨by simp, by simp [nextQ, h2], by simp [nextQ, h3, wideL_snoc], fun z' r e => ?_, by rw [← hh]; rfl, by rw [← hh]; exact ⟨rfl, rfl⟩, fun _ => of_decide_eq_true hf⟩
  cases part with
  | nil => exact absurd rfl h1
  | cons p ps =>
    injection e with e1 e2
    subst e1
    exact h4 p ps rfl
/-- All, line by line. -/
theorem ln_out (L : List Fo) (a b : Int) (l : List (Int × Int)) : ∀ (s : LnS), ∃ o2, (lnEnd (l.foldl (lnAdd L a b) s)).out = s.out ++ o2 ∧ ∀ out', (lnEnd (l.foldl (lnAdd L a b) ⟨s.y, s.now, out'⟩)).out = out' ++ o2 := by
  induction l with
  | nil =>
    intro s
    obtain ⟨y, now, out⟩ := s
    cases now with
    | none => exact ⟨[], by simp [lnEnd], fun o => by simp [lnEnd]⟩
    | some q => exact ⟨[q], by simp [lnEnd], fun o => by simp [lnEnd]⟩
  | cons z l ih =>
    intro s
    obtain ⟨y, now, out⟩ := s
    simp only [List.foldl_cons]
    cases now with
    | none =>
      obtain ⟨o2, h1, h2⟩ := ih (lnAdd L a b ⟨y, none, out⟩ z)
      exact ⟨o2, h1, fun o => h2 o⟩
    | some q =>
      by_cases hf : fitsQ L a b q z.1 z.2 = true
      · obtain ⟨o2, h1, h2⟩ := ih (lnAdd L a b ⟨y, some q, out⟩ z)
        simp only [lnAdd, hf, if_true] at h1 h2 ⊢
        exact ⟨o2, h1, fun o => h2 o⟩
      · obtain ⟨o2, h1, h2⟩ := ih (lnAdd L a b ⟨y, some q, out⟩ z)
        simp only [lnAdd, hf] at h1 h2 ⊢
        refine ⟨q :: o2, ?_, fun o => ?_⟩
        · simpa using h1
        · have := h2 (o ++ [q])
          simpa using this
theorem ln_from (L : List Fo) (a b y : Int) (l : List (Int × Int)) (out : List Lnq) : (lnEnd (l.foldl (lnAdd L a b) ⟨y, none, out⟩)).out = out ++ lnAll L a b y l := by
  obtain ⟨o2, h1, h2⟩ := ln_out L a b l ⟨y, none, []⟩
  simp only [List.nil_append] at h1
  unfold lnAll
  rw [h1]
  exact h2 out
/-- What the line q (made of part) takes in of l, and what follows. -/
theorem ln_grow (L : List Fo) (a b y : Int) (l : List (Int × Int)) : ∀ (y0 : Int) (part : List (Int × Int)) (q : Lnq) (out : List Lnq), LineP L a b y part q → (∀ z ∈ l, 0 ≤ z.2) →
    ∃ p2 r q2, l = p2 ++ r ∧ LineP L a b y (part ++ p2) q2 ∧ (∀ z r', r = z :: r' → fitsQ L a b q2 z.1 z.2 = false) ∧ (lnEnd (l.foldl (lnAdd L a b) ⟨y0, some q, out⟩)).out = out ++ q2 :: lnAll L a b q2.b r := by
  induction l with
  | nil =>
    intro y0 part q out h _
    exact ⟨[], [], q, rfl, by simpa using h, fun z r' e => (by cases e), by simp [lnEnd, lnAll]⟩
  | cons z l ih =>
    intro y0 part q out h hz
    simp only [List.foldl_cons]
    by_cases hf : fitsQ L a b q z.1 z.2 = true
    · obtain ⟨p2, r, q2, h1, h2, h3, h4⟩ := ih y0 (part ++ [z]) (nextQ L a b q z.1 z.2) out (nextQ_line h z hf) (fun x hx => hz x (List.mem_cons_of_mem _ hx))
      refine ⟨z :: p2, r, q2, by rw [h1]; rfl, by simpa using h2, h3, ?_⟩
      simp only [lnAdd, hf, if_true]
      exact h4
    · have hf' : fitsQ L a b q z.1 z.2 = false := by simpa using hf
      refine ⟨[], z :: l, q, rfl, by simpa using h, fun z' r' e => ?_, ?_⟩
      · injection e with e1 e2
        subst e1
        exact hf'
      · have hst : lnAdd L a b ⟨y0, some q, out⟩ z = lnAdd L a b ⟨q.b, none, out ++ [q]⟩ z := by simp [lnAdd, hf']
        have := ln_from L a b q.b (z :: l) (out ++ [q])
        simp only [List.foldl_cons] at this
        rw [hst, this]
        simp
theorem lnAll_cons (L : List Fo) (a b y : Int) (l : List (Int × Int)) (hne : l ≠ []) (hz : ∀ z ∈ l, 0 ≤ z.2) :
    ∃ part r q, l = part ++ r ∧ LineP L a b y part q ∧ (∀ z r', r = z :: r' → fitsQ L a b q z.1 z.2 = false) ∧ lnAll L a b y l = q :: lnAll L a b q.b r := by
  cases l with
  | nil => exact absurd rfl hne
  | cons z l =>
    obtain ⟨p2, r, q2, h1, h2, h3, h4⟩ := ln_grow L a b y l y [z] (begQ L a b y z.1 z.2) [] (begQ_line L a b y z (hz z (List.mem_cons_self ..))) (fun x hx => hz x (List.mem_cons_of_mem _ hx))
    refine ⟨z :: p2, r, q2, by rw [h1]; rfl, by simpa using h2, h3, ?_⟩
    unfold lnAll
    rw [List.foldl_cons]
    have : lnAdd L a b ⟨y, none, []⟩ z = ⟨y, some (begQ L a b y z.1 z.2), []⟩ := rfl
    rw [this, h4]
    rfl
theorem OwnSl.max {α : Type} {C : α → List Value} {n : Nat} {e : TypeId} {w : World} {base : Nat} {v : Value} {L : List α} (h : OwnSl C n e w base v L) : L.length ≤ 9223372036854775807 := by
  rcases h.2 with ⟨_, h0⟩ | ⟨g, cap, cur, _, _, _, hc, hm, _⟩
  · omega
  · unfold maxLen at hm
    omega
theorem lnAll_nil (L : List Fo) (a b y : Int) : lnAll L a b y [] = [] := rfl
end Go.Proofs.Ytecojcdmigmnhaa
