/- The document's answer's Next. -/
import Derived.Test.YtecojcdmigmnhaaRb
import Derived.Deep.RegionLaw
import Derived.StillTailTactics
namespace Go.Proofs.Ytecojcdmigmnhaa
set_option linter.unusedSimpArgs false
set_option linter.unusedVariables false
open Go.RowKit
/-- One edge is looked at. -/
def nx1 (y : Int) (c : Bool) (e : Int) (s : Int × Bool) : Int × Bool := if c = true ∧ y < e ∧ (s.2 = false ∨ e < s.1) then (e, true) else s
def nxF (y : Int) (s : Int × Bool) (f : Fo) : Int × Bool := nx1 y (cnts f) f.y1 (nx1 y (cnts f) f.y0 s)
def nxs (L : List Fo) (y : Int) : Int × Bool := L.foldl (nxF y) (0, false)
/-- What has been found among some edges. -/
def NxOk (P : Int → Prop) (y : Int) (s : Int × Bool) : Prop := (s.2 = true → P s.1 ∧ y < s.1 ∧ ∀ x, P x → y < x → s.1 ≤ x) ∧ (s.2 = false → s.1 = 0 ∧ ∀ x, P x → ¬ y < x)
theorem NxOk.step {P : Int → Prop} {y e : Int} {c : Bool} {s : Int × Bool} (h : NxOk P y s) : NxOk (fun x => P x ∨ (c = true ∧ x = e)) y (nx1 y c e s) := by
  obtain ⟨a, b⟩ := h
  unfold nx1
  by_cases hc : c = true ∧ y < e ∧ (s.2 = false ∨ e < s.1)
  · rw [if_pos hc]
    refine ⟨fun _ => ⟨.inr ⟨hc.1, rfl⟩, hc.2.1, fun x hx hy => ?_⟩, fun h => by cases h⟩
    rcases hx with hx | ⟨_, rfl⟩
    · rcases hc.2.2 with q | q
      · exact absurd hy ((b q).2 x hx)
      · cases hs : s.2 with
        | true => have := (a hs).2.2 x hx hy; show e ≤ x; omega
        | false => exact absurd hy ((b hs).2 x hx)
    · exact Int.le_refl _
  · rw [if_neg hc]
    refine ⟨fun hs => ?_, fun hs => ?_⟩
    · obtain ⟨a1, a2, a3⟩ := a hs
      refine ⟨.inl a1, a2, fun x hx hy => ?_⟩
      rcases hx with hx | ⟨hc1, rfl⟩
      · exact a3 x hx hy
      · have : ¬ x < s.1 := fun q => hc ⟨hc1, hy, .inr q⟩
        omega
    · obtain ⟨b1, b2⟩ := b hs
      refine ⟨b1, fun x hx hy => ?_⟩
      rcases hx with hx | ⟨hc1, rfl⟩
      · exact b2 x hx hy
      · exact hc ⟨hc1, hy, .inl hs⟩
theorem NxOk.congr {P Q : Int → Prop} {y : Int} {s : Int × Bool} (h : NxOk P y s) (hpq : ∀ x, P x ↔ Q x) : NxOk Q y s :=
  ⟨fun e => ⟨(hpq _).1 (h.1 e).1, (h.1 e).2.1, fun x hx => (h.1 e).2.2 x ((hpq x).2 hx)⟩, fun e => ⟨(h.2 e).1, fun x hx => (h.2 e).2 x ((hpq x).2 hx)⟩⟩
theorem nxs_ok (L : List Fo) (y : Int) : ∀ (M : List Fo) (s : Int × Bool), NxOk (isEdge M) y s → NxOk (isEdge (M ++ L)) y (L.foldl (nxF y) s) := by
  induction L with
  | nil => intro M s h; simpa using h
  | cons f L ih =>
    intro M s h
    have h1 := (h.step (e := f.y0) (c := cnts f)).step (e := f.y1) (c := cnts f)
    have h2 := ih (M ++ [f]) (nxF y s f) (h1.congr fun x => by
      unfold isEdge
      constructor
      · rintro ((⟨g, hg, hc, he⟩ | ⟨hc, e⟩) | ⟨hc, e⟩)
        · exact ⟨g, by simp [hg], hc, he⟩
        · exact ⟨f, by simp, hc, .inl e⟩
        · exact ⟨f, by simp, hc, .inr e⟩
      · rintro ⟨g, hg, hc, he⟩
        rcases List.mem_append.1 hg with hg | hg
        · exact .inl (.inl ⟨g, hg, hc, he⟩)
        · have e : g = f := by simpa using hg
          subst e
          rcases he with he | he
          · exact .inl (.inr ⟨hc, he⟩)
          · exact .inr ⟨hc, he⟩)
    simpa using h2
theorem nxs_is (L : List Fo) (y : Int) : IsNext L y (nxs L y).1 (nxs L y).2 :=
  nxs_ok L y [] (0, false) ⟨fun h => (by cases h), fun _ => ⟨rfl, fun x hx => by obtain ⟨f, hf, _⟩ := hx; simp at hf⟩⟩
theorem nx1_cases (y e s1 : Int) (c s2 : Bool) : (c = false ∧ nx1 y c e (s1, s2) = (s1, s2)) ∨ (c = true ∧ decide (y < e) = false ∧ nx1 y c e (s1, s2) = (s1, s2)) ∨ (c = true ∧ decide (y < e) = true ∧ s2 = false ∧ nx1 y c e (s1, s2) = (e, true)) ∨
    (c = true ∧ decide (y < e) = true ∧ s2 = true ∧ decide (e < s1) = true ∧ nx1 y c e (s1, s2) = (e, true)) ∨ (c = true ∧ decide (y < e) = true ∧ s2 = true ∧ decide (e < s1) = false ∧ nx1 y c e (s1, s2) = (s1, s2)) := by
  unfold nx1
  cases c with
  | false => left; exact ⟨rfl, if_neg (by simp)⟩
  | true =>
    right
    by_cases h1 : y < e
    · right
      cases s2 with
      | false => left; exact ⟨rfl, decide_eq_true h1, rfl, if_pos ⟨rfl, h1, .inl rfl⟩⟩
      | true =>
        right
        by_cases h2 : e < s1
        · left; exact ⟨rfl, decide_eq_true h1, rfl, decide_eq_true h2, if_pos ⟨rfl, h1, .inr h2⟩⟩
        · right; exact ⟨rfl, decide_eq_true h1, rfl, decide_eq_false h2, if_neg (by simp; intro _; omega)⟩
    · left; exact ⟨rfl, decide_eq_false h1, if_neg (by simp; omega)⟩
def NxPost (L : List Fo) (y : Int) (w : World) (e : Ending) (w' : World) : Prop := e = .returned (.tuple #[.int .i64 (nxs L y).1, .bool (nxs L y).2]) ∧ Below w.heap.size w w'
def XInv (L : List Fo) (y : Int) (w : World) (i : Nat) (s : Int × Bool) (wr : World) : Prop := nxs (L.take i) y = s ∧ Below w.heap.size w wr
/-- Inside: after j edges of the float i. -/
def nxJ (f : Fo) (y : Int) (s : Int × Bool) : Nat → Int × Bool
  | 0 => s
  | 1 => nx1 y (cnts f) f.y0 s
  | _ => nx1 y (cnts f) f.y1 (nx1 y (cnts f) f.y0 s)
theorem nxs_step (L : List Fo) (y : Int) (i : Nat) (hi : i < L.length) : nxs (L.take (i + 1)) y = nxJ (foAt L i) y (nxs (L.take i) y) 2 := by
  unfold nxs
  rw [List.take_succ_eq_append_getElem hi, List.foldl_append, foAt_eq L i hi]
  rfl
def JInv (f : Fo) (y : Int) (s : Int × Bool) (bE : Nat) (wr : World) (j : Nat) (t : Int × Bool) (wj : World) : Prop :=
  nxJ f y s j = t ∧ Below wr.heap.size wr wj ∧ wj.heap[bE]? = some (.cells #[.int .i64 f.y0, .int .i64 f.y1] 3 (0, 0)) ∧ bE < wj.heap.size
theorem JInv.step {f : Fo} {y : Int} {s t q : Int × Bool} {bE : Nat} {wr wj w' : World} {j : Nat} (h : JInv f y s bE wr j t wj) (hq : nxJ f y s (j + 1) = q) (hb : Below wj.heap.size wj w') : JInv f y s bE wr (j + 1) q w' :=
  ⟨hq, Below.onto hb h.2.1, (hb.block bE h.2.2.2).trans h.2.2.1, Nat.lt_of_lt_of_le h.2.2.2 hb.size⟩
set_option maxRecDepth 20000 in
set_option maxHeartbeats 8000000 in
theorem next_any (L : List Fo) (v : Value) (y : Int) (w : World) (h : IsFos w v L) (hn : L.length ≤ maxLen) : Calls Try.prog 59 #[v, .int .i64 y] w (NxPost L y w) := by
  obtain ⟨A, cap0, rfl, hx1, hx2⟩ := id h
  have HA := Lib.hid hx2
  unfold maxLen at hn
  clear hx1 hx2 h
  unfold NxPost
  obtain ⟨q, hq⟩ : ∃ q, nxs L y = q := ⟨_, rfl⟩
  rw [hq]
  have HQ := Lib.hid hq
  clear hq
  go_enter Try.func59, Try.ntmps59
  go_wp2_with fail
  go_loopw [6, 7, 8] (fun b o x wr => ∃ (i : Nat) (s1 : Int) (s2 : Bool), i ≤ L.length ∧ x = .int .i64 i ∧ b = .int .i64 s1 ∧ o = .bool s2 ∧ Hid (XInv L y w i (s1, s2) wr)) (fun _ _ x _ => L.length - (intOf x).toNat)
  case atStart => exact ⟨0, 0, false, by omega, rfl, rfl, rfl, Lib.hid ⟨rfl, Below.refl _ _⟩⟩
  case round =>
    obtain ⟨i, s1, s2, hi, rfl, rfl, rfl, hI⟩ := hrel
    by_cases hlt : i < L.length
    · obtain ⟨g, o, rfl, hg, hs⟩ := HA.out (by omega)
      have hbs := hI.out.2.size
      have hrd : ∀ w', Below wr.heap.size wr w' → w'.rangeAt g (o + i * 5) (foC (foAt L i)) := fun w' hB j v hv => ((Below.onto hB hI.out.2).cell (p := ⟨g, o + i * 5 + j, none⟩) hg).trans (hs i hlt j v hv)
      obtain ⟨u0, u1, u2, u3, u4⟩ := fo_cells (hrd wr (Below.refl _ _))
      have HRD := Lib.hid fun w' hB => fo_cells (hrd w' hB)
      have hgl : g < wr.heap.size := by omega
      obtain ⟨bE, hbE⟩ : ∃ b, wr.heap.size = b := ⟨_, rfl⟩
      have hI0 : JInv (foAt L i) y (s1, s2) bE wr 0 (s1, s2) (wr.alloc (.cells #[.int .i64 (foAt L i).y0, .int .i64 (foAt L i).y1] 3)).drew :=
        ⟨rfl, ((Below.refl _ _).alloc (Nat.le_refl _) _).drew, by rw [← hbE]; exact heap_alloc_new wr _, by rw [← hbE]; simp⟩
      have HI0 := Lib.hid hI0
      have HI := hI
      have hcn := fun w => counts_any (foAt L i) w
      have hnxt : Hid (∀ t w', nxJ (foAt L i) y (s1, s2) 2 = t → Below wr.heap.size wr w' → XInv L y w (i + 1) t w') := Lib.hid fun t w' ht hb => ⟨by rw [nxs_step L y i hlt, hI.out.1, ht], Below.onto hb hI.out.2⟩
      have hj0 : ∀ j t, j < 2 → nxJ (foAt L i) y (s1, s2) j = t → nxJ (foAt L i) y (s1, s2) (j + 1) = nx1 y (cnts (foAt L i)) (if j = 0 then (foAt L i).y0 else (foAt L i).y1) t := by
        intro j t hj ht
        subst ht
        rcases (show j = 0 ∨ j = 1 by omega) with rfl | rfl <;> rfl
      have HJ0 := Lib.hid hj0
      have HCN := Lib.hid hcn
      clear hI0 hcn hj0 hrd hs hI HI
      generalize cnts (foAt L i) = cc at *
      go_wp2_with fail
      go_region_law (fail)
      all_goals
        simp only [Act.put, List.getElem_toArray, List.getElem_cons_zero, List.getElem_cons_succ, List.setIfInBounds_toArray, List.set_cons_zero, List.set_cons_succ]
        go_wp2_with fail
        go_loopw [6, 7, 31] (fun b o x wj => ∃ (j : Nat) (t1 : Int) (t2 : Bool), j ≤ 2 ∧ x = .int .i64 j ∧ b = .int .i64 t1 ∧ o = .bool t2 ∧ Hid (JInv (foAt L i) y (s1, s2) bE wr j (t1, t2) wj)) (fun _ _ x _ => 2 - (intOf x).toNat)
        case atStart => exact ⟨0, s1, s2, by omega, rfl, rfl, rfl, HI0⟩
        case round =>
          obtain ⟨j, t1, t2, hj, rfl, rfl, rfl, hJ⟩ := hrel
          obtain ⟨v0, v1, v2, v3, v4⟩ := HRD.out wr hJ.out.2.1
          have hJz := hJ.out.2.1.size
          have hgl' : g < wr.heap.size := by omega
          by_cases hj2 : j = 2
          · subst hj2
            have hX := Lib.hid (hnxt.out _ _ hJ.out.1 hJ.out.2.1)
            clear hJ v0 v1 v2 v3 v4 hJz hj
            go_wp2_with fail
            go_roundw
            case rel => exact ⟨i + 1, t1, t2, by omega, by go_num, rfl, rfl, hX⟩
            case measure => simp [intOf]; omega
          · have hjj : j = 0 ∨ j = 1 := by omega
            have hcs := HJ0.out j (t1, t2) (by omega) hJ.out.1
            have e0 := cell_of_row wr bE 0 _ _ (0, 0) hJ.out.2.2.1
            have e1 := cell_of_row wr bE 1 _ _ (0, 0) hJ.out.2.2.1
            have hnj : Hid (∀ q w', nxJ (foAt L i) y (s1, s2) (j + 1) = q → Below wr.heap.size wr w' → JInv (foAt L i) y (s1, s2) bE _ (j + 1) q w') := Lib.hid fun q w' hq hb => hJ.out.step hq hb
            have hbe : bE < wr.heap.size := hJ.out.2.2.2
            generalize nxJ (foAt L i) y (s1, s2) (j + 1) = nq at *
            clear hJ hJz hj
            rcases hjj with rfl | rfl
            · simp only [if_true] at hcs
              have hq := nx1_cases y (foAt L i).y0 t1 cc t2
              rw [← hcs] at hq
              clear hcs
              rcases hq with ⟨k, e⟩ | ⟨k, d1, e⟩ | ⟨k, d1, d2, e⟩ | ⟨k, d1, d2, d3, e⟩ | ⟨k, d1, d2, d3, e⟩
              all_goals
                subst k
                try subst d2
                subst e
                go_wp2_with fail
                refine (HCN.out _).mono ?_
                rintro e w5 ⟨rfl, hb5⟩
                have HB5 := Lib.hid hb5
                clear hb5
                go_wp2_with fail
                go_roundw
                case rel => exact ⟨1, _, _, by omega, by go_num, rfl, rfl, Lib.hid (hnj.out _ _ rfl HB5.out)⟩
                case measure => simp [intOf]
            · simp only [if_neg (show ¬ (1 : Nat) = 0 by omega)] at hcs
              have hq := nx1_cases y (foAt L i).y1 t1 cc t2
              rw [← hcs] at hq
              clear hcs
              rcases hq with ⟨k, e⟩ | ⟨k, d1, e⟩ | ⟨k, d1, d2, e⟩ | ⟨k, d1, d2, d3, e⟩ | ⟨k, d1, d2, d3, e⟩
              all_goals
                subst k
                try subst d2
                subst e
                go_wp2_with fail
                refine (HCN.out _).mono ?_
                rintro e w5 ⟨rfl, hb5⟩
                have HB5 := Lib.hid hb5
                clear hb5
                go_wp2_with fail
                go_roundw
                case rel => exact ⟨2, _, _, by omega, by go_num, rfl, rfl, Lib.hid (hnj.out _ _ rfl HB5.out)⟩
                case measure => simp [intOf]
    · have hil : i = L.length := by omega
      subst hil
      have hp := hI.out.1
      rw [List.take_length, HQ.out] at hp
      subst hp
      have HB := Lib.hid hI.out.2
      clear hI HQ hi hlt
      go_wp2_with fail
      refine bodyPost_ret (v := .tuple #[.int .i64 s1, .bool s2]) (by simp [results, Try.results59, go_sem]) rfl ⟨rfl, HB.out⟩
end Go.Proofs.Ytecojcdmigmnhaa
