/- Place: law11.Of, the columns at a side (at), whether one sticks, the document's Right, begin. -/
import Derived.Test.YtecojcdmigmnhaaAv2
import Derived.Test.YtecojcdmigmnhaaPw
namespace Go.Proofs.Ytecojcdmigmnhaa
set_option linter.unusedSimpArgs false
set_option linter.unusedVariables false
open Go.RowKit
/-- The cells of a want. -/
def wpC (q : Wp) : Array Value := #[.int .i64 q.s, .int .i64 q.c, .int .i64 q.a, .int .i64 q.b, .int .i64 q.wd, .int .i64 q.h, .int .i64 q.y]
set_option maxRecDepth 20000 in
theorem of11_any (q : Wp) (w : World) : Calls Try.prog 45 #[.agg #[.int .i64 q.s, .int .i64 q.c, .int .i64 q.a, .int .i64 q.b, .int .i64 q.wd, .int .i64 q.h, .int .i64 q.y]] w fun e w' => e = .returned (.agg #[.int .i64 q.s, .int .i64 q.c, .int .i64 q.a, .int .i64 q.b, .int .i64 q.wd, .int .i64 q.h, .int .i64 q.y]) ∧ Below w.heap.size w w' := by
  generalize q.s = x0
  generalize q.c = x1
  generalize q.a = x2
  generalize q.b = x3
  generalize q.wd = x4
  generalize q.h = x5
  generalize q.y = x6
  go_enter Try.func45, Try.ntmps45
  go_wp2
  exact bodyPost_ret (v := .agg #[.int .i64 x0, .int .i64 x1, .int .i64 x2, .int .i64 x3, .int .i64 x4, .int .i64 x5, .int .i64 x6]) (by simp [results, Try.results45, go_sem]) rfl ⟨rfl, by (repeat (first | exact Below.refl _ _ | (refine Below.alloc ?_ (by first | omega | (simp; done) | (simp; omega)) _) | (refine Below.on (by assumption) ?_ (by first | omega | (simp; done) | (simp; omega))) | (refine Below.grown ?_ (by assumption) (by first | omega | (simp; done) | (simp; omega)) (by intro k hk; cases hk)) | refine Below.drew ?_))⟩
set_option maxRecDepth 20000 in
theorem pat_any (q : Wp) (f0 f1 : Int) (w : World) (h0 : -4503599627370496 ≤ f0 ∧ f0 ≤ 4503599627370496) (h1 : -4503599627370496 ≤ f1 ∧ f1 ≤ 4503599627370496) (hq : in48 q.wd) :
    Calls Try.prog 119 #[.agg #[.int .i64 q.s, .int .i64 q.c, .int .i64 q.a, .int .i64 q.b, .int .i64 q.wd, .int .i64 q.h, .int .i64 q.y], .agg #[.int .i64 f0, .int .i64 f1]] w (SpanPost (atS q.s q.wd f0 f1) w) := by
  unfold in48 at hq
  unfold SpanPost atS
  obtain ⟨x0, x1, x2, x3, x4, x5, x6⟩ := q
  simp only at hq ⊢
  by_cases hs : x0 = 1
  · subst hs
    rw [if_pos rfl]
    go_enter Try.func119, Try.ntmps119
    go_wp2
    exact bodyPost_ret (v := .agg #[.int .i64 f0, .int .i64 (f0 + x4)]) (by simp [results, Try.results119, go_sem]) rfl ⟨rfl, by (repeat (first | exact Below.refl _ _ | (refine Below.alloc ?_ (by first | omega | (simp; done) | (simp; omega)) _) | (refine Below.on (by assumption) ?_ (by first | omega | (simp; done) | (simp; omega))) | (refine Below.grown ?_ (by assumption) (by first | omega | (simp; done) | (simp; omega)) (by intro k hk; cases hk)) | refine Below.drew ?_))⟩
  · rw [if_neg hs]
    have hd : (x0 == 1) = false := by simp [hs]
    go_enter Try.func119, Try.ntmps119
    go_wp2
    exact bodyPost_ret (v := .agg #[.int .i64 (f1 - x4), .int .i64 f1]) (by simp [results, Try.results119, go_sem]) rfl ⟨rfl, by (repeat (first | exact Below.refl _ _ | (refine Below.alloc ?_ (by first | omega | (simp; done) | (simp; omega)) _) | (refine Below.on (by assumption) ?_ (by first | omega | (simp; done) | (simp; omega))) | (refine Below.grown ?_ (by assumption) (by first | omega | (simp; done) | (simp; omega)) (by intro k hk; cases hk)) | refine Below.drew ?_))⟩
theorem okWp_not {q : Wp} {k : Nat} (h : ¬ in48 (at5 q.a q.b q.wd q.h q.y k)) : okWp q = false := by
  unfold okWp
  refine decide_eq_false fun ⟨⟨h0, h1, h2, h3, h4⟩, _⟩ => h ?_
  match k with
  | 0 => exact h0
  | 1 => exact h1
  | 2 => exact h2
  | 3 => exact h3
  | _ + 4 => exact h4
/-- The tests behind the loop, in their order. -/
theorem okWp_cases (s c a b : Int) : ((s == 1) = true ∨ ((s == 1) = false ∧ (s == 2) = true) ∨ ((s == 1) = false ∧ (s == 2) = false)) ∧ (decide (0 ≤ c) = true ∨ decide (0 ≤ c) = false) ∧ (decide (c ≤ 3) = true ∨ decide (c ≤ 3) = false) ∧ (decide (a ≤ b) = true ∨ decide (a ≤ b) = false) := by
  refine ⟨?_, ?_, ?_, ?_⟩
  · cases s == 1 <;> cases s == 2 <;> simp
  · cases decide (0 ≤ c) <;> simp
  · cases decide (c ≤ 3) <;> simp
  · cases decide (a ≤ b) <;> simp
set_option maxRecDepth 20000 in
set_option maxHeartbeats 4000000 in
theorem right11_any (q : Wp) (w : World) : Calls Try.prog 42 #[.agg #[.int .i64 q.s, .int .i64 q.c, .int .i64 q.a, .int .i64 q.b, .int .i64 q.wd, .int .i64 q.h, .int .i64 q.y]] w fun e w' => e = .returned (.bool (okWp q)) ∧ Below w.heap.size w w' := by
  obtain ⟨res, hres⟩ : ∃ r, okWp q = r := ⟨_, rfl⟩
  rw [hres]
  have HR := Lib.hid hres
  have hno : ∀ k, ¬ in48 (at5 q.a q.b q.wd q.h q.y k) → res = false := fun k h => by rw [← hres]; exact okWp_not h
  have hend : (∀ j, j < 5 → in48 (at5 q.a q.b q.wd q.h q.y j)) → res = decide ((q.s = 1 ∨ q.s = 2) ∧ 0 ≤ q.c ∧ q.c ≤ 3 ∧ q.a ≤ q.b) := fun h => by
    rw [← hres]
    have h0 := h 0 (by omega)
    have h1 := h 1 (by omega)
    have h2 := h 2 (by omega)
    have h3 := h 3 (by omega)
    have h4 := h 4 (by omega)
    simp only [at5] at h0 h1 h2 h3 h4
    unfold okWp
    simp [h0, h1, h2, h3, h4]
  have HNO := Lib.hid hno
  have HEN := Lib.hid hend
  clear hres hno hend
  obtain ⟨qs, qc, qa, qb, qw, qh, qy⟩ := q
  simp only at HNO HEN ⊢
  go_enter Try.func42, Try.ntmps42
  go_wp2_with fail
  obtain ⟨W2, hW2⟩ : ∃ W, (w.alloc (.cells #[.int .i64 qs, .int .i64 qc, .int .i64 qa, .int .i64 qb, .int .i64 qw, .int .i64 qh, .int .i64 qy] 84)).alloc (.cells #[.int .i64 qa, .int .i64 qb, .int .i64 qw, .int .i64 qh, .int .i64 qy] 3) = W := ⟨_, rfl⟩
  obtain ⟨b0, hb0⟩ : ∃ b, w.heap.size = b := ⟨_, rfl⟩
  have r1 : W2.heap[b0]? = some (.cells #[.int .i64 qs, .int .i64 qc, .int .i64 qa, .int .i64 qb, .int .i64 qw, .int .i64 qh, .int .i64 qy] 84 (0, 0)) := by rw [← hW2, ← hb0, heap_alloc_old _ _ (by simp), heap_alloc_new]
  have r2 : W2.heap[b0 + 1]? = some (.cells #[.int .i64 qa, .int .i64 qb, .int .i64 qw, .int .i64 qh, .int .i64 qy] 3 (0, 0)) := by rw [← hW2, ← hb0]; exact heap_alloc2_new w _ _
  have hB2 : Below w.heap.size w W2 := by rw [← hW2]; exact ((Below.refl _ _).alloc (Nat.le_refl _) _).alloc (by simp) _
  have HB2 := Lib.hid hB2
  have R1 := Lib.hid r1
  have R2 := Lib.hid r2
  have c0' : W2.cell? ⟨b0, 0, none⟩ = some (.int .i64 qs) := cell_of_row W2 b0 0 _ _ (0, 0) r1
  have c1' : W2.cell? ⟨b0, 1, none⟩ = some (.int .i64 qc) := cell_of_row W2 b0 1 _ _ (0, 0) r1
  have c2' : W2.cell? ⟨b0, 2, none⟩ = some (.int .i64 qa) := cell_of_row W2 b0 2 _ _ (0, 0) r1
  have c3' : W2.cell? ⟨b0, 3, none⟩ = some (.int .i64 qb) := cell_of_row W2 b0 3 _ _ (0, 0) r1
  rw [hW2, hb0]
  clear hW2 hb0 hB2 r1 r2
  go_loop [17] (fun x => ∃ k : Nat, k ≤ 5 ∧ x = .int .i64 k ∧ Hid (∀ j, j < k → in48 (at5 qa qb qw qh qy j))) (fun x => 5 - (intOf x).toNat)
  case atStart => exact ⟨0, by omega, rfl, Lib.hid (fun j hj => by omega)⟩
  case round =>
    obtain ⟨k, hk, rfl, hI⟩ := hrel
    by_cases hlt : k < 5
    · have c0 : W2.cell? ⟨b0 + 1, k, none⟩ = some (.int .i64 (at5 qa qb qw qh qy k)) := (cell_of_row W2 (b0 + 1) k _ _ (0, 0) R2.out).trans (at5_row qa qb qw qh qy k hlt)
      have hc := in48_cases (at5 qa qb qw qh qy k)
      have HNK := Lib.hid (HNO.out k)
      have HST := Lib.hid (fun (h : in48 (at5 qa qb qw qh qy k)) j (hj : j < k + 1) => show in48 (at5 qa qb qw qh qy j) from by
        by_cases e : j = k
        · rw [e]; exact h
        · exact hI.out j (by omega))
      clear hI
      generalize at5 qa qb qw qh qy k = c at *
      rcases hc with ⟨d1, hn⟩ | ⟨d1, d2, hn⟩ | ⟨d1, d2, hn⟩
      · have hr := HNK.out hn
        subst hr
        clear hn HST HNK
        go_wp2_with fail
        go_ret
        exact ⟨rfl, HB2.out⟩
      · have hr := HNK.out hn
        subst hr
        clear hn HST HNK
        go_wp2_with fail
        go_ret
        exact ⟨rfl, HB2.out⟩
      · have HK := Lib.hid (HST.out hn)
        clear hn HST HNK
        go_wp2_with fail
        go_round
        case rel => exact ⟨k + 1, by omega, by go_num, HK⟩
        case measure => simp [intOf]; omega
    · have hk5 : k = 5 := by omega
      subst hk5
      have hr := HEN.out hI.out
      subst hr
      have hcs := okWp_cases qs qc qa qb
      clear hI HNO HEN HR hlt hk
      obtain ⟨hc1, hc2, hc3, hc4⟩ := hcs
      rcases hc1 with e1 | ⟨e1, e1'⟩ | ⟨e1, e1'⟩
      · rcases hc2 with e2 | e2
        · rcases hc3 with e3 | e3
          · rcases hc4 with e4 | e4
            · go_wp2_with fail
              go_ret
              exact ⟨by congr 2; simp at e1 e2 e3 e4; simp [e1, e2, e3, e4], HB2.out⟩
            · go_wp2_with fail
              go_ret
              exact ⟨by congr 2; (try (simp at e1 e2 e3 e4; first | (simp [e1, e2, e3]; done) | (simp [e1, e2, e3]; omega))), HB2.out⟩
          · go_wp2_with fail
            go_ret
            exact ⟨by congr 2; (try (simp at e1 e2 e3; first | (simp [e1, e2]; done) | (simp [e1, e2]; omega))), HB2.out⟩
        · go_wp2_with fail
          go_ret
          exact ⟨by congr 2; (try (simp at e1 e2; first | (simp [e1]; done) | (simp [e1]; omega))), HB2.out⟩
      · rcases hc2 with e2 | e2
        · rcases hc3 with e3 | e3
          · rcases hc4 with e4 | e4
            · go_wp2_with fail
              go_ret
              exact ⟨by congr 2; simp at e1 e1' e2 e3 e4; simp [e1', e2, e3, e4], HB2.out⟩
            · go_wp2_with fail
              go_ret
              exact ⟨by congr 2; (try (simp at e1 e1' e2 e3 e4; first | (simp [e1', e2, e3]; done) | (simp [e1', e2, e3]; omega))), HB2.out⟩
          · go_wp2_with fail
            go_ret
            exact ⟨by congr 2; (try (simp at e1 e1' e2 e3; first | (simp [e1', e2]; done) | (simp [e1', e2]; omega))), HB2.out⟩
        · go_wp2_with fail
          go_ret
          exact ⟨by congr 2; (try (simp at e1 e1' e2; first | (simp [e1']; done) | (simp [e1']; omega))), HB2.out⟩
      · go_wp2_with fail
        go_ret
        exact ⟨by congr 2; simp at e1 e1'; simp [e1, e1'], HB2.out⟩
end Go.Proofs.Ytecojcdmigmnhaa
