/- The document's answer's Bounds. -/
import Derived.Test.YtecojcdmigmnhaaCn
namespace Go.Proofs.Ytecojcdmigmnhaa
set_option linter.unusedSimpArgs false
set_option linter.unusedVariables false
open Go.RowKit
/-- What Bounds asks of a float at a row. -/
theorem put_cases (f : Fo) (y : Int) (p : Int × Int) : (cnts f = false ∧ put1 f y p = p) ∨ (cnts f = true ∧ decide (y < f.y0) = true ∧ put1 f y p = p) ∨ (cnts f = true ∧ decide (y < f.y0) = false ∧ decide (f.y1 ≤ y) = true ∧ put1 f y p = p) ∨
    (cnts f = true ∧ decide (y < f.y0) = false ∧ decide (f.y1 ≤ y) = false ∧ (f.s == 1) = true ∧ (f.s == 2) = false ∧ decide (p.1 < f.x1) = true ∧ put1 f y p = (f.x1, p.2)) ∨
    (cnts f = true ∧ decide (y < f.y0) = false ∧ decide (f.y1 ≤ y) = false ∧ (f.s == 1) = true ∧ (f.s == 2) = false ∧ decide (p.1 < f.x1) = false ∧ put1 f y p = p) ∨
    (cnts f = true ∧ decide (y < f.y0) = false ∧ decide (f.y1 ≤ y) = false ∧ (f.s == 1) = false ∧ (f.s == 2) = true ∧ decide (f.x0 < p.2) = true ∧ put1 f y p = (p.1, f.x0)) ∨
    (cnts f = true ∧ decide (y < f.y0) = false ∧ decide (f.y1 ≤ y) = false ∧ (f.s == 1) = false ∧ (f.s == 2) = true ∧ decide (f.x0 < p.2) = false ∧ put1 f y p = p) := by
  obtain ⟨p1, p2⟩ := p
  cases hc : cnts f with
  | false => left; exact ⟨rfl, put1_miss (fun h => absurd (h.1.symm.trans hc) (by simp)) _⟩
  | true =>
    right
    by_cases h1 : y < f.y0
    · left; exact ⟨rfl, decide_eq_true h1, put1_miss (fun h => by have := h.2.1; omega) _⟩
    · right
      by_cases h2 : f.y1 ≤ y
      · left; exact ⟨rfl, decide_eq_false h1, decide_eq_true h2, put1_miss (fun h => by have := h.2.2; omega) _⟩
      · right
        have hh : hits f y := ⟨hc, by omega, by omega⟩
        have hs : f.s = 1 ∨ f.s = 2 := by
          unfold cnts at hc
          simp only [decide_eq_true_eq] at hc
          exact hc.2.2
        rw [put1_hit hh]
        rcases hs with e | e
        · rw [if_pos e]
          by_cases h3 : p1 < f.x1
          · left; exact ⟨rfl, decide_eq_false h1, decide_eq_false h2, by simp [e], by simp [e], decide_eq_true h3, by simp only [Prod.mk.injEq, and_true]; omega⟩
          · right; left; exact ⟨rfl, decide_eq_false h1, decide_eq_false h2, by simp [e], by simp [e], decide_eq_false h3, by simp only [Prod.mk.injEq, and_true]; omega⟩
        · rw [if_neg (by omega)]
          by_cases h3 : f.x0 < p2
          · right; right; left; exact ⟨rfl, decide_eq_false h1, decide_eq_false h2, by simp [e], by simp [e], decide_eq_true h3, by simp only [Prod.mk.injEq, true_and]; omega⟩
          · right; right; right; exact ⟨rfl, decide_eq_false h1, decide_eq_false h2, by simp [e], by simp [e], decide_eq_false h3, by simp only [Prod.mk.injEq, true_and]; omega⟩
def BdsPost (L : List Fo) (y : Int) (w : World) (e : Ending) (w' : World) : Prop := e = .returned (.tuple #[.int .i64 (bnd L y).1, .int .i64 (bnd L y).2]) ∧ Below w.heap.size w w'
def NInv (L : List Fo) (y : Int) (w : World) (i : Nat) (p : Int × Int) (wr : World) : Prop := bnd (L.take i) y = p ∧ Below w.heap.size w wr
theorem NInv.step {L : List Fo} {y : Int} {w wr w' : World} {i : Nat} {p q : Int × Int} (h : NInv L y w i p wr) (hi : i < L.length) (hq : put1 (foAt L i) y p = q) (hb : Below wr.heap.size wr w') : NInv L y w (i + 1) q w' := by
  refine ⟨?_, Below.onto hb h.2⟩
  rw [List.take_succ_eq_append_getElem hi, bnd_snoc, h.1, ← foAt_eq L i hi, hq]
set_option maxRecDepth 20000 in
set_option maxHeartbeats 8000000 in
theorem bounds_any (L : List Fo) (v : Value) (y : Int) (w : World) (h : IsFos w v L) (hn : L.length ≤ maxLen) : Calls Try.prog 60 #[v, .int .i64 y] w (BdsPost L y w) := by
  obtain ⟨A, cap0, rfl, hx1, hx2⟩ := id h
  have HA := Lib.hid hx2
  unfold maxLen at hn
  clear hx1 hx2 h
  unfold BdsPost
  obtain ⟨q, hq⟩ : ∃ q, bnd L y = q := ⟨_, rfl⟩
  rw [hq]
  have HQ := Lib.hid hq
  clear hq
  go_enter Try.func60, Try.ntmps60
  go_wp2_with fail
  go_loopw [6, 7, 8] (fun l r x wr => ∃ (i : Nat) (p1 p2 : Int), i ≤ L.length ∧ x = .int .i64 i ∧ l = .int .i64 p1 ∧ r = .int .i64 p2 ∧ Hid (NInv L y w i (p1, p2) wr)) (fun _ _ x _ => L.length - (intOf x).toNat)
  case atStart => exact ⟨0, -4503599627370496, 4503599627370496, by omega, rfl, rfl, rfl, Lib.hid ⟨rfl, Below.refl _ _⟩⟩
  case round =>
    obtain ⟨i, p1, p2, hi, rfl, rfl, rfl, hI⟩ := hrel
    by_cases hlt : i < L.length
    · obtain ⟨g, o, rfl, hg, hs⟩ := HA.out (by omega)
      have hbs := hI.out.2.size
      have hrd : ∀ w', Below wr.heap.size wr w' → w'.rangeAt g (o + i * 5) (foC (foAt L i)) := fun w' hB j v hv => ((Below.onto hB hI.out.2).cell (p := ⟨g, o + i * 5 + j, none⟩) hg).trans (hs i hlt j v hv)
      obtain ⟨u0, u1, u2, u3, u4⟩ := fo_cells (hrd wr (Below.refl _ _))
      have HRD := Lib.hid fun w' hB => fo_cells (hrd w' hB)
      have hcn := fun w => counts_any (foAt L i) w
      have hgl : g < wr.heap.size := by omega
      have hpc := put_cases (foAt L i) y (p1, p2)
      have hst : ∀ q w', put1 (foAt L i) y (p1, p2) = q → Below wr.heap.size wr w' → NInv L y w (i + 1) q w' := fun q w' hq hb => hI.out.step hlt hq hb
      have HST := Lib.hid hst
      have hbs' := Lib.hid hbs
      clear hs hrd hbs hst hI
      generalize put1 (foAt L i) y (p1, p2) = pq at *
      generalize cnts (foAt L i) = cc at *
      generalize (foAt L i).s = fs at *
      generalize (foAt L i).x0 = f0 at *
      generalize (foAt L i).y0 = f1 at *
      generalize (foAt L i).x1 = f2 at *
      generalize (foAt L i).y1 = f3 at *
      simp only at hpc
      have HCN := Lib.hid hcn
      clear hcn
      rcases hpc with ⟨k, e⟩ | ⟨k, d1, e⟩ | ⟨k, d1, d2, e⟩ | ⟨k, d1, d2, d3, d4, d5, e⟩ | ⟨k, d1, d2, d3, d4, d5, e⟩ | ⟨k, d1, d2, d3, d4, d5, e⟩ | ⟨k, d1, d2, d3, d4, d5, e⟩
      all_goals
        subst k
        subst e
        go_wp2_with fail
        refine (HCN.out _).mono ?_
        rintro e w5 ⟨rfl, hb5⟩
        have hc5 := fun o => hb5.cell (p := ⟨wr.heap.size, o, none⟩) (by simp; done)
        have HB5 := Lib.hid (Below.on hb5 (n := wr.heap.size) (W0 := wr) (by (repeat (first | exact Below.refl _ _ | (refine Below.alloc ?_ (by first | omega | (simp; done) | (simp; omega)) _) | (refine Below.on (by assumption) ?_ (by first | omega | (simp; done) | (simp; omega))) | (refine Below.grown ?_ (by assumption) (by first | omega | (simp; done) | (simp; omega)) (by intro k hk; cases hk)) | refine Below.drew ?_))) (by simp; done))
        obtain ⟨v0, v1, v2, v3, v4⟩ := HRD.out w5 HB5.out
        clear hb5
        go_wp2_with fail
        go_roundw
        case rel => exact ⟨i + 1, _, _, by omega, by go_num, rfl, rfl, Lib.hid (HST.out _ _ rfl HB5.out)⟩
        case measure => simp [intOf]; omega
    · have hil : i = L.length := by omega
      subst hil
      have hp := hI.out.1
      rw [List.take_length] at hp
      rw [HQ.out] at hp
      subst hp
      have HB := Lib.hid hI.out.2
      clear hI HQ hi hlt
      go_wp2_with fail
      refine bodyPost_ret (v := .tuple #[.int .i64 p1, .int .i64 p2]) (by simp [results, Try.results60, go_sem]) rfl ⟨rfl, HB.out⟩
end Go.Proofs.Ytecojcdmigmnhaa
