/- Floats in memory, as the laws get them; Small, Of, Few. -/
import Derived.Test.YtecojcdmigmnhaaBd
namespace Go.Proofs.Ytecojcdmigmnhaa
set_option linter.unusedSimpArgs false
set_option linter.unusedVariables false
open Go.RowKit
def foC (f : Fo) : List Value := [.int .i64 f.s, .int .i64 f.x0, .int .i64 f.y0, .int .i64 f.x1, .int .i64 f.y1]
def fo0 : Fo := ⟨0, 0, 0, 0, 0⟩
def foAt (L : List Fo) (i : Nat) : Fo := L.getD i fo0
theorem foAt_eq (L : List Fo) (i : Nat) (h : i < L.length) : foAt L i = L[i] := by simp [foAt, List.getD_eq_getElem?_getD, List.getElem?_eq_getElem h]
theorem floatInfo : (Try.prog.info? 49).map (·.size) = some 5 := by kernel_rfl
/-- A slice of floats that came in. -/
def IsFos (w : World) (v : Value) (L : List Fo) : Prop := ∃ (A : Option Addr) (cap : Nat), v = .slice A L.length cap ∧ L.length ≤ cap ∧
  (0 < L.length → ∃ g o, A = some ⟨g, o, none⟩ ∧ g < w.heap.size ∧ ∀ k, k < L.length → w.rangeAt g (o + k * 5) (foC (foAt L k)))
theorem IsFos.below {w w' : World} {v : Value} {L : List Fo} {n : Nat} (h : IsFos w v L) (hb : Below n w w') (hn : w.heap.size ≤ n) : IsFos w' v L := by
  obtain ⟨A, cap, rfl, hc, hA⟩ := h
  refine ⟨A, cap, rfl, hc, fun h0 => ?_⟩
  obtain ⟨g, o, rfl, hg, hs⟩ := hA h0
  refine ⟨g, o, rfl, by have := hb.size; omega, fun k hk j v hv => ?_⟩
  exact (hb.cell (p := ⟨g, o + k * 5 + j, none⟩) (by show g < n; omega)).trans (hs k hk j v hv)
theorem fo_cells {w : World} {g o : Nat} {f : Fo} (h : w.rangeAt g o (foC f)) :
    w.cell? ⟨g, o, none⟩ = some (.int .i64 f.s) ∧ w.cell? ⟨g, o + 1, none⟩ = some (.int .i64 f.x0) ∧ w.cell? ⟨g, o + 2, none⟩ = some (.int .i64 f.y0) ∧ w.cell? ⟨g, o + 3, none⟩ = some (.int .i64 f.x1) ∧ w.cell? ⟨g, o + 4, none⟩ = some (.int .i64 f.y1) :=
  ⟨h 0 _ rfl, h 1 _ rfl, h 2 _ rfl, h 3 _ rfl, h 4 _ rfl⟩
def smI (c : Int) : Bool := decide (-2251799813685248 < c ∧ c < 2251799813685248)
def smallR (a b c d : Int) : Bool := smI a && smI b && smI c && smI d
def smallF (f : Fo) : Bool := smallR f.x0 f.y0 f.x1 f.y1
def fewB (L : List Fo) (m : Int) : Bool := L.all smallF && decide ((L.length : Int) ≤ m)
theorem smI_cases (c : Int) : (smI c = false ∧ decide (c ≤ -2251799813685248) = true) ∨ (smI c = false ∧ decide (c ≤ -2251799813685248) = false ∧ decide (2251799813685248 ≤ c) = true) ∨ (smI c = true ∧ decide (c ≤ -2251799813685248) = false ∧ decide (2251799813685248 ≤ c) = false) := by
  unfold smI
  by_cases h1 : c ≤ -2251799813685248
  · left; exact ⟨decide_eq_false (by omega), decide_eq_true h1⟩
  · right
    by_cases h2 : 2251799813685248 ≤ c
    · left; exact ⟨decide_eq_false (by omega), decide_eq_false h1, decide_eq_true h2⟩
    · right; exact ⟨decide_eq_true (by omega), decide_eq_false h1, decide_eq_false h2⟩
def at4 (a b c d : Int) : Nat → Int
  | 0 => a
  | 1 => b
  | 2 => c
  | _ => d
theorem small_all (a b c d : Int) (h : ∀ j, j < 4 → smI (at4 a b c d j) = true) : smallR a b c d = true := by
  have h0 := h 0 (by omega)
  have h1 := h 1 (by omega)
  have h2 := h 2 (by omega)
  have h3 := h 3 (by omega)
  simp only [at4] at h0 h1 h2 h3
  simp [smallR, h0, h1, h2, h3]
theorem small_not (a b c d : Int) (j : Nat) (h : smI (at4 a b c d j) = false) : smallR a b c d = false := by
  match j, h with
  | 0, h => simp only [at4] at h; simp [smallR, h]
  | 1, h => simp only [at4] at h; simp [smallR, h]
  | 2, h => simp only [at4] at h; simp [smallR, h]
  | _ + 3, h => simp only [at4] at h; simp [smallR, h]
set_option maxRecDepth 20000 in
set_option maxHeartbeats 4000000 in
theorem small_any (a b c d : Int) (w : World) : Calls Try.prog 56 #[.agg #[.int .i64 a, .int .i64 b, .int .i64 c, .int .i64 d]] w fun e w' => e = .returned (.bool (smallR a b c d)) ∧ Below w.heap.size w w' := by
  obtain ⟨res, hres⟩ : ∃ r, smallR a b c d = r := ⟨_, rfl⟩
  rw [hres]
  have HR := Lib.hid hres
  clear hres
  go_enter Try.func56, Try.ntmps56
  go_wp2_with fail
  go_loopw [3] (fun x wr => ∃ i : Nat, i ≤ 4 ∧ x = .int .i64 i ∧ Hid (∀ j, j < i → smI (at4 a b c d j) = true) ∧ wr = w.alloc (.cells #[.int .i64 a, .int .i64 b, .int .i64 c, .int .i64 d] 47)) (fun x _ => 4 - (intOf x).toNat)
  case atStart => exact ⟨0, by omega, rfl, Lib.hid (fun j hj => by omega), rfl⟩
  case round =>
    obtain ⟨i, hi, rfl, hA, rfl⟩ := hrel
    have hcs := smI_cases (at4 a b c d i)
    by_cases h4 : i = 4
    · subst h4
      have hR := small_all a b c d hA.out
      rw [HR.out] at hR
      subst hR
      clear HR hcs hA hi
      go_wp2
      go_ret
      exact ⟨rfl, by (repeat (first | exact Below.refl _ _ | (refine Below.alloc ?_ (by first | omega | (simp; done) | (simp; omega)) _) | (refine Below.on (by assumption) ?_ (by first | omega | (simp; done) | (simp; omega))) | (refine Below.grown ?_ (by assumption) (by first | omega | (simp; done) | (simp; omega)) (by intro k hk; cases hk)) | refine Below.drew ?_))⟩
    · have hNot : Hid (smI (at4 a b c d i) = false → smallR a b c d = false) := Lib.hid (small_not a b c d i)
      have hstep : Hid (smI (at4 a b c d i) = true → ∀ j, j < i + 1 → smI (at4 a b c d j) = true) := Lib.hid (fun h j hj => by
        by_cases e : j = i
        · subst e; exact h
        · exact hA.out j (by omega))
      have hi4 : i = 0 ∨ i = 1 ∨ i = 2 ∨ i = 3 := by omega
      clear hA hi h4
      rcases hi4 with rfl | rfl | rfl | rfl
      all_goals
        simp only [at4] at hcs
        rcases hcs with ⟨s1, d1⟩ | ⟨s1, d1, d2⟩ | ⟨s1, d1, d2⟩
        · have hr := hNot.out s1
          rw [HR.out] at hr
          subst hr
          clear hNot hstep HR s1
          go_wp2
          go_ret
          exact ⟨rfl, by (repeat (first | exact Below.refl _ _ | (refine Below.alloc ?_ (by first | omega | (simp; done) | (simp; omega)) _) | (refine Below.on (by assumption) ?_ (by first | omega | (simp; done) | (simp; omega))) | (refine Below.grown ?_ (by assumption) (by first | omega | (simp; done) | (simp; omega)) (by intro k hk; cases hk)) | refine Below.drew ?_))⟩
        · have hr := hNot.out s1
          rw [HR.out] at hr
          subst hr
          clear hNot hstep HR s1
          go_wp2
          go_ret
          exact ⟨rfl, by (repeat (first | exact Below.refl _ _ | (refine Below.alloc ?_ (by first | omega | (simp; done) | (simp; omega)) _) | (refine Below.on (by assumption) ?_ (by first | omega | (simp; done) | (simp; omega))) | (refine Below.grown ?_ (by assumption) (by first | omega | (simp; done) | (simp; omega)) (by intro k hk; cases hk)) | refine Below.drew ?_))⟩
        · have hs' := Lib.hid (hstep.out s1)
          clear hNot hstep s1
          go_wp2_with fail
          first
            | exact ⟨⟨1, by omega, by simp, hs', by simp⟩, by simp [intOf]⟩
            | exact ⟨⟨2, by omega, by simp, hs', by simp⟩, by simp [intOf]⟩
            | exact ⟨⟨3, by omega, by simp, hs', by simp⟩, by simp [intOf]⟩
            | exact ⟨⟨4, by omega, by simp, hs', by simp⟩, by simp [intOf]⟩
end Go.Proofs.Ytecojcdmigmnhaa
