/- Law LineAlone: its walk. -/
import Derived.Test.YtecojcdmigmnhaaLkp
namespace Go.Proofs.Ytecojcdmigmnhaa
set_option linter.unusedSimpArgs false
set_option linter.unusedVariables false
open Go.RowKit
theorem free_none (a b y h : Int) (ha : -far ≤ a) (hb : b ≤ far) : freeS [] a b y h = (a, b) := by
  unfold freeS
  rw [bnds_beyond (L := []) (fun f hf => by cases hf)]
  simp only [Prod.mk.injEq]
  omega
theorem top_none (a b y wd h : Int) (ha : -far ≤ a) (hb : b ≤ far) : topQ [] a b y wd h = y := by
  unfold topQ
  refine (firstL_true ?_ _).1
  unfold soLn
  rw [free_none a b y h ha hb, bnds_beyond (L := []) (fun f hf => by cases hf)]
  exact decide_eq_true (by simp only; omega)
theorem highL_pos : ∀ (l : List (Int × Int)) (n : Int), n ≤ l.foldl (fun n z => max n z.2) n
  | [], n => Int.le_refl _
  | z :: l, n => Int.le_trans (by omega) (highL_pos l (max n z.2))
theorem highL_le : ∀ (l : List (Int × Int)) (n : Int), (∀ z ∈ l, szOk z) → n ≤ 2147483648 → l.foldl (fun n z => max n z.2) n ≤ 2147483648
  | [], n, _, h => h
  | z :: l, n, hz, h => highL_le l (max n z.2) (fun x hx => hz x (List.mem_cons_of_mem _ hx)) (by have := (hz z (List.mem_cons_self ..)).2.2; omega)
theorem highL_in {l : List (Int × Int)} (h : ∀ z ∈ l, szOk z) : 0 ≤ highL l ∧ highL l ≤ 2147483648 := ⟨highL_pos l 0, highL_le l 0 h (by decide)⟩
theorem wideL_in {l : List (Int × Int)} (h : ∀ z ∈ l, szOk z) : 0 ≤ wideL l ∧ wideL l ≤ l.length * 2147483648 := by
  induction l with
  | nil => exact ⟨Int.le_refl _, Int.le_refl _⟩
  | cons z l ih =>
    have h1 := ih (fun x hx => h x (List.mem_cons_of_mem _ hx))
    have h2 := (h z (List.mem_cons_self ..)).1
    have e : wideL (z :: l) = z.1 + wideL l := rfl
    rw [e, List.length_cons]
    omega
theorem wideL_app (l k : List (Int × Int)) : wideL (l ++ k) = wideL l + wideL k := by simp [wideL]
theorem wideL_pre {l : List (Int × Int)} (h : ∀ z ∈ l, szOk z) (i : Nat) : wideL (l.take i) ≤ wideL l := by
  have e := wideL_app (l.take i) (l.drop i)
  rw [List.take_append_drop] at e
  have := (wideL_in (l := l.drop i) (fun z hz => h z (List.mem_of_mem_drop hz))).1
  omega
/-- One line of All, without floats. -/
theorem alone_line {a b y : Int} {zs : List (Int × Int)} {lines : List Lnq} {i done : Nat} (ha : -far ≤ a) (hb : b ≤ far) (hz : ∀ z ∈ zs, szOk z) (hd : done ≤ zs.length) (h : lines.drop i = lnAll [] a b y (zs.drop done)) (hi : i < lines.length) :
    ∃ n : Nat, 1 ≤ n ∧ done + n ≤ zs.length ∧ lines[i] = ⟨a, y, b, y + highL ((zs.drop done).take n), n, wideL ((zs.drop done).take n)⟩ ∧ (1 < n → wideL ((zs.drop done).take n) ≤ b - a) ∧
      (∀ hh : done + n < zs.length, ¬ wideL ((zs.drop done).take n) + zs[done + n].1 ≤ b - a) ∧ lines.drop (i + 1) = lnAll [] a b (y + highL ((zs.drop done).take n)) (zs.drop (done + n)) := by
  have hne : zs.drop done ≠ [] := fun e => by
    rw [e, lnAll_nil] at h
    have := congrArg List.length h
    rw [List.length_drop] at this
    simp at this
    omega
  obtain ⟨part, r, q, h1, h2, h3, h4⟩ := lnAll_cons [] a b y (zs.drop done) hne (fun z hz' => (hz z (List.mem_of_mem_drop hz')).2.1)
  obtain ⟨g1, g2, g3, g4, g5, g6, g7⟩ := h2
  have hp : (zs.drop done).take part.length = part := by rw [h1]; simp
  have hr : zs.drop (done + part.length) = r := by rw [← List.drop_drop, h1]; simp
  have hlen : part.length + r.length = zs.length - done := by
    have := congrArg List.length h1
    simp at this
    omega
  have ht : q.t = y := by
    cases part with
    | nil => exact absurd rfl g1
    | cons z ps => rw [g4 z ps rfl, top_none a b y _ _ ha hb]
  rw [free_none a b _ _ ha hb] at g6
  have hq : lines[i] = q := by
    have e1 : (lines.drop i)[0]? = some q := by rw [h, h4]; rfl
    rw [List.getElem?_drop] at e1
    have e2 : lines[i + 0]? = some lines[i] := by rw [Nat.add_zero]; exact List.getElem?_eq_getElem hi
    rw [e2] at e1
    exact Option.some.inj e1
  refine ⟨part.length, by have := List.length_pos_iff.2 g1; omega, by omega, ?_, ?_, ?_, ?_⟩
  · rw [hq, hp]
    obtain ⟨ql, qt, qr, qb, qn, qd⟩ := q
    simp only at g2 g3 g5 g6 ht
    rw [g2, g3, g5, ht, g6.1, g6.2]
  · intro hn
    rw [hp, ← g3]
    have := g7 hn
    rw [g6.1, g6.2] at this
    exact this
  · intro hh
    rw [hp]
    have hrz : r = zs[done + part.length] :: zs.drop (done + part.length + 1) := by rw [← hr]; exact List.drop_eq_getElem_cons hh
    have := h3 _ _ hrz
    unfold fitsQ at this
    rw [free_none a b _ _ ha hb] at this
    have := of_decide_eq_false this
    rw [g3] at this
    exact this
  · have e1 : lines.drop (i + 1) = (lines.drop i).drop 1 := by rw [List.drop_drop]
    rw [e1, h, h4, hr, hp, ← ht, ← g5]
    rfl
theorem alone_end {a b y : Int} {zs : List (Int × Int)} {lines : List Lnq} {i done : Nat} (hz : ∀ z ∈ zs, szOk z) (hd : done ≤ zs.length) (h : lines.drop i = lnAll [] a b y (zs.drop done)) (hi : lines.length ≤ i) : done = zs.length := by
  by_cases hne : zs.drop done = []
  · have := List.drop_eq_nil_iff.1 hne
    omega
  · obtain ⟨part, r, q, h1, h2, h3, h4⟩ := lnAll_cons [] a b y (zs.drop done) hne (fun z hz' => (hz z (List.mem_of_mem_drop hz')).2.1)
    rw [h4, List.drop_eq_nil_of_le hi] at h
    cases h
theorem lq6 {w w' : World} {k : Nat} {q : Lnq} {T : TypeId} (h : w.heap[k]? = some (.cells (lnqC q).toArray T (0, 0))) (hb : Below w.heap.size w w') :
    w'.cell? ⟨k, 0, none⟩ = some (.int .i64 q.l) ∧ w'.cell? ⟨k, 1, none⟩ = some (.int .i64 q.t) ∧ w'.cell? ⟨k, 2, none⟩ = some (.int .i64 q.r) ∧ w'.cell? ⟨k, 3, none⟩ = some (.int .i64 q.b) ∧ w'.cell? ⟨k, 4, none⟩ = some (.int .i64 q.n) ∧ w'.cell? ⟨k, 5, none⟩ = some (.int .i64 q.d) := lnq6 (blk_keep h hb)
/-- The state of the outer loop. -/
def LaI (a b : Int) (zs : List (Int × Int)) (lines : List Lnq) (w2 : World) (y0 : Int) (i done : Nat) (y : Int) (wr : World) : Prop :=
  lines.drop i = lnAll [] a b y (zs.drop done) ∧ done ≤ zs.length ∧ (y0 ≤ y ∧ y ≤ y0 + done * 2147483648) ∧ Below w2.heap.size w2 wr
theorem rlineInfo : (Try.prog.info? 65).map (·.size) = some 6 := lineInfo
theorem lq_cells {w : World} {g o : Nat} {q : Lnq} (h : w.rangeAt g o (lnqC q)) : w.cell? ⟨g, o, none⟩ = some (.int .i64 q.l) ∧ w.cell? ⟨g, o + 1, none⟩ = some (.int .i64 q.t) ∧ w.cell? ⟨g, o + 2, none⟩ = some (.int .i64 q.r) ∧ w.cell? ⟨g, o + 3, none⟩ = some (.int .i64 q.b) ∧ w.cell? ⟨g, o + 4, none⟩ = some (.int .i64 q.n) ∧ w.cell? ⟨g, o + 5, none⟩ = some (.int .i64 q.d) :=
  ⟨h 0 _ rfl, h 1 _ rfl, h 2 _ rfl, h 3 _ rfl, h 4 _ rfl, h 5 _ rfl⟩
set_option maxRecDepth 20000 in
set_option maxHeartbeats 4000000 in
theorem lineAlone_any (a b y : Int) (v : Value) (zs : List (Int × Int)) (w : World) (h : IsSl szC 2 w v zs) (hL : zs.length ≤ maxLen) : Calls Try.prog 7 #[.int .i64 a, .int .i64 b, .int .i64 y, v] w fun e w' => e = .returned (.bool true) ∧ Below w.heap.size w w' := by
  have h0 := h
  obtain ⟨A, cap, rfl, hc, HA⟩ := h
  have HCAP := Lib.hid hc
  have HH := Lib.hid h0
  have HNIL : Hid (IsFos w (.slice none 0 0) []) := Lib.hid ⟨none, 0, rfl, Nat.le_refl _, fun h => absurd h (by decide)⟩
  clear h0 hc
  by_cases hnr : near13 [] a b y = true
  · have HBG := Lib.hid (begin13_yes (.slice none 0 0) [] a b y w HNIL.out hnr (by decide))
    have HNO := near13_of hnr
    clear hnr
    go_enter Try.func7, Try.ntmps7
    go_wp2_with fail
    refine HBG.out.mono ?_
    rintro e w1 ⟨sp, rfl, hs1, hb1⟩
    have HS1 := Lib.hid hs1
    have HB1 := Lib.hid hb1
    clear hs1 hb1
    go_wp2_with fail
    refine (speaks13_any w1).mono ?_
    rintro e w2 ⟨rfl, hb2⟩
    have HS2 := Lib.hid (HS1.out.below hb2 (Nat.le_refl _))
    have HB2 := Lib.hid (HB1.out.trans (hb2.mono HB1.out.size))
    clear hb2
    by_cases h40 : (40 : Int) < zs.length
    · go_wp2_with fail
      refine (speaks13_any w2).mono ?_
      rintro e w3 ⟨rfl, hb3⟩
      have HB3 := Lib.hid (HB2.out.trans (hb3.mono HB2.out.size))
      clear hb3
      go_wp2_with fail
      go_ret
      exact ⟨rfl, HB3.out⟩
    have HR := Lib.hid (right13_any (.slice A zs.length cap) zs w2 (HH.out.below HB2.out (Nat.le_refl _)) hL)
    cases hrt : zs.all szB with
    | false =>
      rw [hrt] at HR
      go_wp2_with fail
      refine HR.out.mono ?_
      rintro e w3 ⟨rfl, rfl⟩
      go_wp2_with fail
      refine (speaks13_any w2).mono ?_
      rintro e w3 ⟨rfl, hb3⟩
      have HB3 := Lib.hid (HB2.out.trans (hb3.mono HB2.out.size))
      clear hb3
      go_wp2_with fail
      go_ret
      exact ⟨rfl, HB3.out⟩
    | true =>
      rw [hrt] at HR
      have HZ := Lib.hid (show ∀ z ∈ zs, szOk z from fun z hz => szB_ok (List.all_eq_true.1 hrt z hz))
      clear hrt
      go_wp2_with fail
      refine HR.out.mono ?_
      rintro e w3 ⟨rfl, rfl⟩
      go_wp2_with fail
      refine (of13_any (.slice A zs.length cap) zs w2 (HH.out.below HB2.out (Nat.le_refl _)) (by omega)).mono ?_
      rintro e w3 ⟨v3, rfl, ho3, hb3⟩
      have HV3 := Lib.hid (ho3.is szC_len (by decide))
      have HS3 := Lib.hid (HS2.out.below hb3 (Nat.le_refl _))
      have HB3 := Lib.hid (HB2.out.trans (hb3.mono HB2.out.size))
      clear ho3 hb3
      go_wp2_with fail
      have hno := HNO
      refine (all_any13 [] 140737488355328 a b y zs v3 w.heap.size sp w3 HS3.out HV3.out HZ.out (by omega) (hno.ok (by decide)) hno.small hno.tops (by decide) (by have := hno.ha; omega) (by have := hno.hb; omega) (by have := hno.hy; omega)).mono ?_
      rintro e w4 ⟨v4, rfl, ho4, hb4⟩
      obtain ⟨lines, hln⟩ : ∃ l, lnAll [] a b y zs = l := ⟨_, rfl⟩
      rw [hln] at ho4
      have HB4 := Lib.hid (HB3.out.trans (hb4.mono HB3.out.size))
      have hlm := ho4.max
      obtain ⟨A4, cap4, rfl, hc4, HA4⟩ := ho4.is lnqC_len (by decide)
      have HL0 : Hid (LaI a b zs lines w4 y 0 0 y w4) := Lib.hid ⟨by rw [List.drop_zero, List.drop_zero, hln], Nat.zero_le _, ⟨Int.le_refl _, by omega⟩, Below.refl _ _⟩
      clear ho4 hb4 hc4 hno
      go_wp2_with fail
      go_loopw [47, 10, 2] (fun x dn yy wr => ∃ (i done : Nat) (yi : Int), i ≤ lines.length ∧ x = .int .i64 i ∧ dn = .int .i64 done ∧ yy = .int .i64 yi ∧ Hid (LaI a b zs lines w4 y i done yi wr)) (fun x _ _ _ => lines.length - (intOf x).toNat)
      case atStart => exact ⟨0, 0, y, by omega, rfl, rfl, rfl, HL0⟩
      case round =>
        obtain ⟨i, done, yi, hi, rfl, rfl, rfl, hI⟩ := hrel
        clear HL0
        obtain ⟨d1, d2, ⟨d3, d4⟩, d5⟩ := hI.out
        have hfa : -far ≤ a := by have := HNO.ha; unfold far; omega
        have hfb : b ≤ far := by have := HNO.hb; unfold far; omega
        by_cases hlt : i < lines.length
        · obtain ⟨n, n1, n2, hq, hfit, hnx, hdrop⟩ := alone_line hfa hfb HZ.out d2 d1 hlt
          obtain ⟨g, o, rfl, hg, hs⟩ := HA.out (by omega)
          obtain ⟨g4, o4, rfl, hg4, hs4⟩ := HA4.out (by omega)
          have hcq : wr.rangeAt g4 (o4 + i * 6) (lnqC lines[i]) := fun j v hv => (d5.cell (p := ⟨g4, o4 + i * 6 + j, none⟩) hg4).trans (hs4 i hlt j v hv)
          rw [hq] at hcq
          have hpz : ∀ z ∈ (zs.drop done).take n, szOk z := fun z hz => HZ.out z (List.mem_of_mem_drop (List.mem_of_mem_take hz))
          have hHH := highL_in hpz
          have hDD := wideL_in hpz
          have hpl : ((zs.drop done).take n).length = n := by rw [List.length_take, List.length_drop]; omega
          have hpj : ∀ j, j < n → ∃ h : done + j < zs.length, ((zs.drop done).take (j + 1)) = (zs.drop done).take j ++ [zs[done + j]] := fun j hj => ⟨by omega, by
            rw [List.take_succ_eq_append_getElem (by rw [List.length_drop]; omega), List.getElem_drop]⟩
          have hpm : ∀ j, j ≤ n → wideL ((zs.drop done).take j) ≤ wideL ((zs.drop done).take n) := fun j hj => by
            have := wideL_pre hpz j
            rwa [List.take_take, Nat.min_eq_left hj] at this
          have hpn : ∀ j, 0 ≤ wideL ((zs.drop done).take j) := fun j => (wideL_in (fun z hz => HZ.out z (List.mem_of_mem_drop (List.mem_of_mem_take hz)))).1
          obtain ⟨H, hH⟩ : ∃ H, highL ((zs.drop done).take n) = H := ⟨_, rfl⟩
          obtain ⟨D, hD⟩ : ∃ D, wideL ((zs.drop done).take n) = D := ⟨_, rfl⟩
          rw [hH, hD] at hcq
          rw [hD] at hfit hnx hDD hpm
          rw [hH] at hdrop hHH
          rw [hpl] at hDD
          obtain ⟨u0, u1, u2, u3, u4, u5⟩ := lq_cells hcq
          simp only at u0 u1 u2 u3 u4 u5
          have hg4l : g4 < wr.heap.size := by have := d5.size; omega
          have hw42 := d5.size
          have hk1 : ¬ (n : Int) < 1 := by omega
          have hk0 : IntKind.i64.wrap (b - a) = b - a := by have := HNO.ha; have := HNO.hb; rw [IntKind.wrap_i64]; omega
          have hk2 : IntKind.i64.wrap ((done : Int) + (n : Int)) = ((done + n : Nat) : Int) := by rw [IntKind.wrap_i64]; omega
          have hk3 : ¬ (zs.length : Int) < ((done + n : Nat) : Int) := by omega
          have HNX := Lib.hid hnx
          have HFIT := Lib.hid hfit
          have HDROP := Lib.hid hdrop
          have HPJ := Lib.hid hpj
          have HPM := Lib.hid hpm
          have HPN := Lib.hid hpn
          have HHI := Lib.hid hH
          have HDE := Lib.hid hD
          have HD5 := Lib.hid d5
          have HS := Lib.hid (fun w' (e : Below wr.heap.size wr w') k (hk : k < zs.length) => sz_cells (w := w') (g := g) (o := o + k * 2) (fun j v hv => by
            have e1 := e.cell (p := ⟨g, o + k * 2 + j, none⟩) (show g < wr.heap.size by have := HB4.out.size; omega)
            have e2 := d5.cell (p := ⟨g, o + k * 2 + j, none⟩) (show g < w4.heap.size by have := HB4.out.size; omega)
            have e3 := HB4.out.cell (p := ⟨g, o + k * 2 + j, none⟩) hg
            exact e1.trans (e2.trans (e3.trans (hs k hk j v hv)))))
          have hcap := HCAP.out
          obtain ⟨wa, hwa⟩ : ∃ wa, wr.alloc (.cells #[.int .i64 a, .int .i64 yi, .int .i64 b, .int .i64 (yi + H), .int .i64 n, .int .i64 D] 65) = wa := ⟨_, rfl⟩
          have hba : Below wr.heap.size wr wa := by rw [← hwa]; exact (Below.refl _ _).alloc (Nat.le_refl _) _
          obtain ⟨pq, hpq⟩ : ∃ p, wr.heap.size = p := ⟨_, rfl⟩
          have hga : wa.heap[pq]? = some (.cells (lnqC ⟨a, yi, b, yi + H, n, D⟩).toArray 65 (0, 0)) := by rw [← hwa, ← hpq]; exact heap_alloc_new wr _
          have HWA := Lib.hid hwa
          have HBA := Lib.hid hba
          have HPQ := Lib.hid hpq
          have HGA := Lib.hid hga
          clear hs hs4 hcq hpz hpl hpj hpm hpn hH hD hI hnx hfit hdrop d1 d5 hwa hba hpq hga hq
          go_wp2_with (first
            | ((with_reducible refine store_new (dst := none) 65 (.tmp 12) (.tmp 50) wr _ #[.int .i64 a, .int .i64 yi, .int .i64 b, .int .i64 (yi + H), .int .i64 n, .int .i64 D] 65 rfl ?_ ?_ ?_ ?_ ?_ ?_); rfl; rfl; exact lineInfo; rfl; (simp [Value.oneCell'])))
          rw [HWA.out]
          (try rw [HPQ.out])
          (try simp only [Act.put, List.setIfInBounds_toArray, List.set_cons_zero, List.set_cons_succ])
          go_loopw [92, 13, 14] (fun x wd hg wr => ∃ (j : Nat), j ≤ n ∧ x = .int .i64 j ∧ wd = .int .i64 (wideL ((zs.drop done).take j)) ∧ hg = .int .i64 (highL ((zs.drop done).take j)) ∧ Hid (Below wa.heap.size wa wr)) (fun x _ _ _ => n - (intOf x).toNat)
          case atStart => exact ⟨0, by omega, rfl, rfl, rfl, Lib.hid (Below.refl _ _)⟩
          case round =>
            obtain ⟨j, hj, rfl, rfl, rfl, hJ⟩ := hrel
            have hbi := HBA.out.trans (hJ.out.mono HBA.out.size)
            by_cases hjn : j < n
            · obtain ⟨hlz, htk⟩ := HPJ.out j hjn
              obtain ⟨c0, c1⟩ := HS.out wr hbi (done + j) hlz
              have hzk := HZ.out zs[done + j] (List.getElem_mem hlz)
              have hw1 := wideL_snoc ((zs.drop done).take j) zs[done + j]
              have hw2 := highL_snoc ((zs.drop done).take j) zs[done + j]
              rw [← htk] at hw1 hw2
              have hm := HPM.out (j + 1) (by omega)
              have hp0 := HPN.out j
              have hfj : 0 < j → ¬ b - a < wideL ((zs.drop done).take (j + 1)) := fun h => by have := HFIT.out (by omega); omega
              obtain ⟨W1, hW1⟩ : ∃ W, wideL ((zs.drop done).take j) = W := ⟨_, rfl⟩
              obtain ⟨W2, hW2⟩ : ∃ W, wideL ((zs.drop done).take (j + 1)) = W := ⟨_, rfl⟩
              obtain ⟨V1, hV1⟩ : ∃ W, highL ((zs.drop done).take j) = W := ⟨_, rfl⟩
              obtain ⟨V2, hV2⟩ : ∃ W, highL ((zs.drop done).take (j + 1)) = W := ⟨_, rfl⟩
              rw [hW1] at hw1 hp0 ⊢
              rw [hV1] at hw2 ⊢
              rw [hW2] at hw1 hm hfj
              rw [hV2] at hw2
              generalize zs[done + j] = z at *
              obtain ⟨z1, z2⟩ := z
              simp only at c0 c1 hw1 hw2
              rw [show o + (done + j) * 2 = o + done * 2 + j * 2 by omega] at c0 c1
              obtain ⟨⟨za, zb⟩, zc, zd⟩ := hzk
              simp only at za zb zc zd
              have hsum : IntKind.i64.wrap (W1 + z1) = W2 := by rw [IntKind.wrap_i64]; omega
              have hmx : (if V1 < z2 then z2 else V1) = V2 := by rw [hw2]; split <;> omega
              have HR1 := Lib.hid (show Value.int .i64 W2 = .int .i64 (wideL ((zs.drop done).take (j + 1))) ∧ Value.int .i64 V2 = .int .i64 (highL ((zs.drop done).take (j + 1))) by rw [hW2, hV2]; exact ⟨rfl, rfl⟩)
              have HJ2 := Lib.hid (hJ.out.trans (((Below.refl wr.heap.size wr).alloc (Nat.le_refl _) (.cells #[.int .i64 z1, .int .i64 z2] 67)).mono hJ.out.size))
              have HMX := Lib.hid hmx
              have HV := Lib.hid hw2
              have hgl : g < wr.heap.size := by have := HB4.out.size; have := hbi.size; omega
              have HFJ := Lib.hid hfj
              clear hW1 hW2 hV1 hV2 htk hJ hbi hm hmx hw1 hw2 hp0 hfj
              by_cases hj0 : 0 < j
              · have hnf := HFJ.out hj0
                go_wp2_with (first
                  | ((with_reducible refine store_new (dst := none) 67 (.tmp 16) (.tmp 96) wr _ #[.int .i64 z1, .int .i64 z2] 67 rfl ?_ ?_ ?_ ?_ ?_ ?_); rfl; rfl; exact rszInfo; rfl; (simp [Value.oneCell'])))
                all_goals
                  go_roundw
                  case rel => exact ⟨j + 1, by omega, by go_num, HR1.out.1, ((congrArg (Value.int .i64) (by have := HV.out; omega)).trans HR1.out.2), HJ2⟩
                  case measure => simp [intOf]; omega
              · have hj00 : j = 0 := by omega
                subst hj00
                simp only [Nat.zero_mul, Nat.add_zero] at c0 c1
                go_wp2_with (first
                  | ((with_reducible refine store_new (dst := none) 67 (.tmp 16) (.tmp 96) wr _ #[.int .i64 z1, .int .i64 z2] 67 rfl ?_ ?_ ?_ ?_ ?_ ?_); rfl; rfl; exact rszInfo; rfl; (simp [Value.oneCell'])))
                all_goals
                  go_roundw
                  case rel => exact ⟨1, by omega, by go_num, HR1.out.1, ((congrArg (Value.int .i64) (by have := HV.out; omega)).trans HR1.out.2), HJ2⟩
                  case measure => simp [intOf]; omega
            · have hjn2 : j = n := by omega
              subst hjn2
              obtain ⟨e0, e1, e2, e3, e4, e5⟩ := lq6 (HGA.out) hJ.out
              simp only at e0 e1 e2 e3 e4 e5
              rw [HDE.out, HHI.out]
              have hw9 : IntKind.i64.wrap (yi + H) = yi + H := by have := HNO.hy; rw [IntKind.wrap_i64]; omega
              have HLA := Lib.hid (show LaI a b zs lines w4 y (i + 1) (done + j) (yi + H) wr from ⟨HDROP.out, n2, ⟨by omega, by push_cast; omega⟩, HD5.out.trans (hbi.mono HD5.out.size)⟩)
              by_cases hh : done + j < zs.length
              · have hk6 : ((done + j : Nat) : Int) < (zs.length : Int) := by omega
                obtain ⟨c0, c1⟩ := HS.out wr hbi (done + j) hh
                have hnx := HNX.out hh
                have hzk := HZ.out zs[done + j] (List.getElem_mem hh)
                generalize zs[done + j] = z at *
                obtain ⟨z1, z2⟩ := z
                obtain ⟨⟨za, zb⟩, zc, zd⟩ := hzk
                simp only at c0 c1 hnx za zb
                have hwz : IntKind.i64.wrap (D + z1) = D + z1 := by rw [IntKind.wrap_i64]; omega
                have hbz : (0 : Int) ≤ ((done + j : Nat) : Int) := by omega
                clear hJ hbi
                go_wp2_with fail
                go_roundw
                case rel => exact ⟨i + 1, done + j, yi + H, by omega, by go_num, rfl, rfl, HLA⟩
                case measure => simp [intOf]; omega
              · have hk6 : ¬ ((done + j : Nat) : Int) < (zs.length : Int) := by omega
                clear hJ hbi
                go_wp2_with fail
                go_roundw
                case rel => exact ⟨i + 1, done + j, yi + H, by omega, by go_num, rfl, rfl, HLA⟩
                case measure => simp [intOf]; omega
        · have hdn := alone_end HZ.out d2 d1 (by omega)
          subst hdn
          have HBE := Lib.hid (HB4.out.trans (d5.mono HB4.out.size))
          clear d1 d5 hI
          have hir : i = lines.length := by omega
          subst hir
          go_wp2_with fail
          go_ret
          exact ⟨by first | rfl | simp, HBE.out⟩
  · have HBG := Lib.hid (begin13_no (.slice none 0 0) [] a b y w HNIL.out (by unfold maxLen; decide) (fun h => hnr h.1))
    clear hnr
    go_enter Try.func7, Try.ntmps7
    go_wp2_with fail
    refine HBG.out.mono ?_
    rintro e w1 ⟨rfl, hb1⟩
    have HB1 := Lib.hid hb1
    clear hb1
    go_wp2_with fail
    refine (speaks13_any w1).mono ?_
    rintro e w2 ⟨rfl, hb2⟩
    have HB2 := Lib.hid (HB1.out.trans (hb2.mono HB1.out.size))
    clear hb2
    go_wp2_with fail
    refine (speaks13_any w2).mono ?_
    rintro e w3 ⟨rfl, hb3⟩
    have HB3 := Lib.hid (HB2.out.trans (hb3.mono HB2.out.size))
    clear hb3
    go_wp2_with fail
    go_ret
    exact ⟨rfl, HB3.out⟩
end Go.Proofs.Ytecojcdmigmnhaa
