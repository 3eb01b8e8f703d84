/- Spaces in memory; the edges; Last, Bottom, Clear, Rows. -/
import Derived.Test.YtecojcdmigmnhaaSpp
import Derived.Test.YtecojcdmigmnhaaFw
import Derived.Deep.RegionHeld3
namespace Go.Proofs.Ytecojcdmigmnhaa
set_option linter.unusedSimpArgs false
set_option linter.unusedVariables false
open Go.RowKit
def putE (C : Array Value) (o : Nat) (e : Int × Bool) : Array Value := (C.setIfInBounds o (.int .i64 e.1)).setIfInBounds (o + 1) (.bool e.2)
/-- The cells of a space: its list, its floats, the lowest top, the lowest bottoms. -/
def spC (lp : Nat) (v : Value) (l b1 b2 b3 : Int × Bool) : Array Value := #[.pointer (some ⟨lp, 0, none⟩), v, .int .i64 l.1, .bool l.2, .int .i64 0, .bool false, .int .i64 b1.1, .bool b1.2, .int .i64 b2.1, .bool b2.2, .int .i64 b3.1, .bool b3.2]
def spL (lp : Nat) (v : Value) (L : List Fo) : Array Value := spC lp v (lastS L) (botS 1 L) (botS 2 L) (botS 3 L)
def SpaceIs (w : World) (base sp : Nat) (L : List Fo) : Prop := ∃ lp v, w.heap[sp]? = some (.cells (spL lp v L) 127 (0, 0)) ∧ base ≤ sp ∧ ListIs w base lp (full (shelves L)) ∧ w.ownsRow base 105 5 v L.length (flat foC L)
theorem SpaceIs.below {w w' : World} {base sp n : Nat} {L : List Fo} (h : SpaceIs w base sp L) (hb : Below n w w') (hn : w.heap.size ≤ n) : SpaceIs w' base sp L := by
  obtain ⟨lp, v, h1, h2, h3, h4⟩ := h
  exact ⟨lp, v, (hb.block sp (by have := (Array.getElem?_eq_some_iff.1 h1).1; omega)).trans h1, h2, h3.below hb hn, own_below h4 (hb.mono hn)⟩
theorem SpaceIs.mono {w : World} {base base' sp : Nat} {L : List Fo} (h : SpaceIs w base sp L) (hb : base' ≤ base) : SpaceIs w base' sp L := by
  obtain ⟨lp, v, h1, h2, h3, h4⟩ := h
  exact ⟨lp, v, h1, by omega, h3.mono hb, own_mono h4 hb⟩
theorem SpaceIs.lt {w : World} {base sp : Nat} {L : List Fo} (h : SpaceIs w base sp L) : sp < w.heap.size := by
  obtain ⟨lp, v, h1, _⟩ := h
  exact (Array.getElem?_eq_some_iff.1 h1).1
theorem edgeInfo : (Try.prog.info? 124).map (·.size) = some 2 := by kernel_rfl
theorem heap_put2 {w : World} {b : Nat} {C : Array Value} {t : TypeId} (h : w.heap[b]? = some (.cells C t (0, 0))) (o : Nat) (e : Int × Bool) :
    (w.setCells b o [.int .i64 e.1, .bool e.2]).heap[b]? = some (.cells (putE C o e) t (0, 0)) :=
  heap_setCell_same _ b (o + 1) _ t _ (heap_setCell_same w b o C t _ h)
theorem grown_setCells (b : Nat) : ∀ (vs : List Value) (o : Nat) (w : World), w.grownBy (w.setCells b o vs) (some b)
  | [], _, _ => ⟨rfl, rfl, rfl, Nat.le_refl _, fun _ _ _ => rfl⟩
  | v :: r, o, w => by
    have h1 : w.grownBy (w.setCell ⟨b, o, none⟩ v) (some b) := ⟨rfl, rfl, rfl, by simp, fun k _ hk => Below.heap_setCell _ _ _ _ (fun e => hk (by rw [e]))⟩
    exact grown_trans h1 (grown_setCells b r (o + 1) _)
theorem grown_size_setCells (b : Nat) : ∀ (vs : List Value) (o : Nat) (w : World), (w.setCells b o vs).heap.size = w.heap.size
  | [], _, _ => rfl
  | v :: r, o, w => by rw [World.setCells, grown_size_setCells b r]; simp
def ReachPost (b o : Nat) (C : Array Value) (t : TypeId) (e' : Int × Bool) (w : World) (e : Ending) (w' : World) : Prop :=
  e = .returned (.tuple #[]) ∧ w'.heap[b]? = some (.cells (putE C o e') t (0, 0)) ∧ w.grownBy w' (some b) ∧ w'.heap.size = w.heap.size
theorem there_of {w : World} {b o : Nat} {C : Array Value} {t : TypeId} (h : w.heap[b]? = some (.cells C t (0, 0))) (n : Nat) (ho : o + n ≤ C.size) : w.there b o n := by
  intro j hj
  refine ⟨?_, frozen_of_row w b (o + j) _ _ h⟩
  rw [cell_of_row w b (o + j) _ _ (0, 0) h, Array.getElem?_eq_getElem (by omega)]
  rfl
theorem put_same {C : Array Value} {o : Nat} {e : Int × Bool} (h0 : C[o]? = some (.int .i64 e.1)) (h1 : C[o + 1]? = some (.bool e.2)) : putE C o e = C := by
  unfold putE
  apply Array.ext_getElem?
  intro i
  rw [Array.getElem?_setIfInBounds, Array.getElem?_setIfInBounds]
  have s0 := (Array.getElem?_eq_some_iff.1 h0).1
  have s1 := (Array.getElem?_eq_some_iff.1 h1).1
  by_cases e1 : o + 1 = i
  · subst e1
    simp [s1]
    simpa [s1] using h1.symm
  · rw [if_neg e1]
    by_cases e0 : o = i
    · subst e0
      simp [s0]
      simpa [s0] using h0.symm
    · rw [if_neg e0]
set_option maxRecDepth 20000 in
set_option maxHeartbeats 2000000 in
theorem reach_any (b o : Nat) (C : Array Value) (T : TypeId) (a n : Int) (t : Bool) (w : World) (h : w.heap[b]? = some (.cells C T (0, 0))) (h0 : C[o]? = some (.int .i64 a)) (h1 : C[o + 1]? = some (.bool t)) :
    Calls Try.prog 63 #[.pointer (some ⟨b, o, none⟩), .int .i64 n] w (ReachPost b o C T (rch (a, t) n) w) := by
  have c0 : w.cell? ⟨b, o, none⟩ = some (.int .i64 a) := by rw [cell_of_row w b o _ _ (0, 0) h, h0]
  have c1 : w.cell? ⟨b, o + 1, none⟩ = some (.bool t) := by rw [cell_of_row w b (o + 1) _ _ (0, 0) h, h1]
  have f0 := frozen_of_row w b o _ _ h
  have f1 := frozen_of_row w b (o + 1) _ _ h
  have H := Lib.hid h
  have H0 := Lib.hid h0
  have H1 := Lib.hid h1
  rcases rch_cases a n t with ⟨rfl, k⟩ | ⟨rfl, d, k⟩ | ⟨rfl, d, k⟩
  · rw [k]
    clear k h h0 h1
    go_enter Try.func63, Try.ntmps63
    go_wp2_with fail
    refine bodyPost_ret (results_none rfl _ _ _) rfl ?_
    exact ⟨rfl, heap_put2 H.out o (n, true), grown_setCells b [.int .i64 n, .bool true] o w, grown_size_setCells b [.int .i64 n, .bool true] o w⟩
  · rw [k]
    clear k h h0 h1
    go_enter Try.func63, Try.ntmps63
    go_wp2_with fail
    refine bodyPost_ret (results_none rfl _ _ _) rfl ?_
    exact ⟨rfl, heap_put2 H.out o (n, true), grown_setCells b [.int .i64 n, .bool true] o w, grown_size_setCells b [.int .i64 n, .bool true] o w⟩
  · rw [k]
    clear k h h0 h1
    go_enter Try.func63, Try.ntmps63
    go_wp2_with fail
    refine bodyPost_ret (results_none rfl _ _ _) rfl ?_
    exact ⟨rfl, by rw [put_same H0.out H1.out]; exact H.out, ⟨rfl, rfl, rfl, Nat.le_refl _, fun _ _ _ => rfl⟩, rfl⟩
theorem Below.drewN' {n : Nat} {w w' : World} (h : Below n w w') (k : Nat) : Below n w (w'.drewN k) := h.trans ⟨rfl, rfl, rfl, Nat.le_refl _, fun _ _ => rfl⟩
def EdgePost (e' : Int × Bool) (w : World) (e : Ending) (w' : World) : Prop := e = .returned (.tuple #[.int .i64 e'.1, .bool e'.2]) ∧ Below w.heap.size w w'
set_option maxRecDepth 20000 in
theorem get_any (a : Int) (t : Bool) (w : World) : Calls Try.prog 73 #[.agg #[.int .i64 a, .bool t]] w (EdgePost (a, t) w) := by
  go_enter Try.func73, Try.ntmps73
  go_wp2_with fail
  go_quiet (fail)
  go_wp2_with fail
  go_ret2
  exact ⟨rfl, Below.drewN' ((Below.refl _ _).alloc (Nat.le_refl _) _) _⟩
theorem SpaceIs.cells {w : World} {base sp : Nat} {L : List Fo} (h : SpaceIs w base sp L) : ∃ lp v, w.heap[sp]? = some (.cells (spL lp v L) 127 (0, 0)) := by
  obtain ⟨lp, v, h1, _⟩ := h
  exact ⟨lp, v, h1⟩
set_option maxRecDepth 20000 in
theorem last_any (L : List Fo) (base sp : Nat) (w : World) (h : SpaceIs w base sp L) : Calls Try.prog 117 #[.pointer (some ⟨sp, 0, none⟩)] w (EdgePost (lastS L) w) := by
  obtain ⟨lp, v, h1⟩ := h.cells
  obtain ⟨⟨a, t⟩, hl⟩ : ∃ e, lastS L = e := ⟨_, rfl⟩
  unfold spL at h1
  rw [hl] at h1 ⊢
  have c0 := cell_of_row w sp 2 _ _ (0, 0) h1
  have c1 := cell_of_row w sp 3 _ _ (0, 0) h1
  have c2 : w.cell? ⟨sp, 2, none⟩ = some (.int .i64 a) := c0
  have c3 : w.cell? ⟨sp, 3, none⟩ = some (.bool t) := c1
  unfold EdgePost
  clear c0 c1 h1 hl h
  go_enter Try.func117, Try.ntmps117
  go_wp2_with (go_at_call 73; refine (get_any a t _).mono ?_; rintro e w1 ⟨rfl, hb1⟩; have HB1 := Lib.hid hb1; clear hb1)
  go_ret2
  exact ⟨rfl, HB1.out⟩
set_option maxRecDepth 20000 in
set_option maxHeartbeats 1000000 in
theorem bottom_any (L : List Fo) (c : Int) (base sp : Nat) (w : World) (h : SpaceIs w base sp L) (hs : ∀ f ∈ L, f.s = 1 ∨ f.s = 2) : Calls Try.prog 43 #[.pointer (some ⟨sp, 0, none⟩), .int .i64 c] w (EdgePost (botS c L) w) := by
  obtain ⟨lp, v, h1⟩ := h.cells
  unfold spL at h1
  unfold EdgePost
  have hcs : (decide (c ≤ 0) = true ∧ botS c L = (0, false)) ∨ (decide (c ≤ 0) = false ∧ decide (3 < c) = true ∧ botS c L = (0, false)) ∨ (c = 1 ∨ c = 2 ∨ c = 3) := by
    by_cases h1 : c ≤ 0
    · left; exact ⟨decide_eq_true h1, botS_none hs (.inl h1)⟩
    · by_cases h2 : 3 < c
      · right; left; exact ⟨decide_eq_false h1, decide_eq_true h2, botS_none hs (.inr h2)⟩
      · right; right; omega
  rcases hcs with ⟨d, e⟩ | ⟨d, d', e⟩ | hcs
  · rw [e]
    clear e hs h1 h
    go_enter Try.func43, Try.ntmps43
    go_wp2_with fail
    go_ret2
    exact ⟨rfl, Below.refl _ _⟩
  · rw [e]
    clear e hs h1 h
    go_enter Try.func43, Try.ntmps43
    go_wp2_with fail
    go_ret2
    exact ⟨rfl, Below.refl _ _⟩
  · rcases hcs with rfl | rfl | rfl
    · obtain ⟨⟨a, t⟩, hl⟩ : ∃ e, botS 1 L = e := ⟨_, rfl⟩
      rw [hl] at h1 ⊢
      have c2 : w.cell? ⟨sp, 6, none⟩ = some (.int .i64 a) := cell_of_row w sp 6 _ _ (0, 0) h1
      have c3 : w.cell? ⟨sp, 7, none⟩ = some (.bool t) := cell_of_row w sp 7 _ _ (0, 0) h1
      clear h1 hl h hs
      go_enter Try.func43, Try.ntmps43
      go_wp2_with (go_at_call 73; refine (get_any a t _).mono ?_; rintro e w1 ⟨rfl, hb1⟩; have HB1 := Lib.hid hb1; clear hb1)
      go_ret2
      exact ⟨rfl, HB1.out⟩
    · obtain ⟨⟨a, t⟩, hl⟩ : ∃ e, botS 2 L = e := ⟨_, rfl⟩
      rw [hl] at h1 ⊢
      have c2 : w.cell? ⟨sp, 8, none⟩ = some (.int .i64 a) := cell_of_row w sp 8 _ _ (0, 0) h1
      have c3 : w.cell? ⟨sp, 9, none⟩ = some (.bool t) := cell_of_row w sp 9 _ _ (0, 0) h1
      clear h1 hl h hs
      go_enter Try.func43, Try.ntmps43
      go_wp2_with (go_at_call 73; refine (get_any a t _).mono ?_; rintro e w1 ⟨rfl, hb1⟩; have HB1 := Lib.hid hb1; clear hb1)
      go_ret2
      exact ⟨rfl, HB1.out⟩
    · obtain ⟨⟨a, t⟩, hl⟩ : ∃ e, botS 3 L = e := ⟨_, rfl⟩
      rw [hl] at h1 ⊢
      have c2 : w.cell? ⟨sp, 10, none⟩ = some (.int .i64 a) := cell_of_row w sp 10 _ _ (0, 0) h1
      have c3 : w.cell? ⟨sp, 11, none⟩ = some (.bool t) := cell_of_row w sp 11 _ _ (0, 0) h1
      clear h1 hl h hs
      go_enter Try.func43, Try.ntmps43
      go_wp2_with (go_at_call 73; refine (get_any a t _).mono ?_; rintro e w1 ⟨rfl, hb1⟩; have HB1 := Lib.hid hb1; clear hb1)
      go_ret2
      exact ⟨rfl, HB1.out⟩
def IntPost (n : Int) (w : World) (e : Ending) (w' : World) : Prop := e = .returned (.int .i64 n) ∧ Below w.heap.size w w'
def SpanPost (p : Int × Int) (w : World) (e : Ending) (w' : World) : Prop := e = .returned (.agg #[.int .i64 p.1, .int .i64 p.2]) ∧ Below w.heap.size w w'
set_option maxRecDepth 20000 in
theorem clear_any (L : List Fo) (c y : Int) (base sp : Nat) (w : World) (h : SpaceIs w base sp L) (hs : ∀ f ∈ L, f.s = 1 ∨ f.s = 2) : Calls Try.prog 27 #[.pointer (some ⟨sp, 0, none⟩), .int .i64 c, .int .i64 y] w (IntPost (clrS c L y) w) := by
  have hb := fun w h => bottom_any L c base sp w h hs
  unfold clrS
  unfold EdgePost at hb
  unfold IntPost
  generalize botS c L = q at *
  obtain ⟨a, t⟩ := q
  have HBT := Lib.hid hb
  have HH := Lib.hid h
  clear hb h hs
  cases t with
  | false =>
    rw [if_neg (by simp)]
    go_enter Try.func27, Try.ntmps27
    go_wp2_with (go_at_call 43; refine (HBT.out _ HH.out).mono ?_; rintro e w1 ⟨rfl, hb1⟩; have HB1 := Lib.hid hb1; clear hb1)
    go_ret
    exact ⟨rfl, HB1.out⟩
  | true =>
    rw [if_pos rfl]
    go_enter Try.func27, Try.ntmps27
    go_wp2_with (go_at_call 43; refine (HBT.out _ HH.out).mono ?_; rintro e w1 ⟨rfl, hb1⟩; have HB1 := Lib.hid hb1; clear hb1)
    all_goals
      go_ret
      exact ⟨retI (by omega), HB1.out⟩
set_option maxRecDepth 20000 in
theorem srows_any (y hi : Int) (w : World) (m1 : -4503599627370496 ≤ y ∧ y ≤ 4503599627370496) (m2 : hi ≤ 4503599627370496) : Calls Try.prog 34 #[.int .i64 y, .int .i64 hi] w (SpanPost (y, y + hgh hi) w) := by
  unfold SpanPost hgh
  go_enter Try.func34, Try.ntmps34
  go_wp2
  all_goals
    refine bodyPost_ret (v := .agg #[.int .i64 y, .int .i64 (y + max hi 1)]) ?_ rfl ⟨rfl, by (repeat (first | exact Below.refl _ _ | (refine Below.alloc ?_ (by first | omega | (simp; done) | (simp; omega)) _) | (refine Below.on (by assumption) ?_ (by first | omega | (simp; done) | (simp; omega))) | (refine Below.grown ?_ (by assumption) (by first | omega | (simp; done) | (simp; omega)) (by intro k hk; cases hk)) | refine Below.drew ?_))⟩
    simp [results, Try.results34, go_sem]
    try omega
end Go.Proofs.Ytecojcdmigmnhaa
