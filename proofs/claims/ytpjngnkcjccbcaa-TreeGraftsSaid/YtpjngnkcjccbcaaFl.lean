/- Rows of structs, one behind the other, as lists of cells. -/
import Derived.Test.YtpjngnkcjccbcaaIn
import Derived.Test.YtpjngnkcjccbcaaLs
namespace Go.Proofs.Ytpjngnkcjccbcaa
set_option linter.unusedSimpArgs false
set_option linter.unusedVariables false
open Go.RowKit
def flat {α : Type} (f : α → List Value) (l : List α) : List Value := (l.map f).flatten
section
variable {α : Type} {f : α → List Value} {n : Nat}
theorem flat_len (hf : ∀ a, (f a).length = n) (l : List α) : (flat f l).length = l.length * n := by
  induction l with
  | nil => simp [flat]
  | cons a l ih =>
    have : (flat f (a :: l)).length = (f a).length + (flat f l).length := by simp [flat]
    rw [this, hf, ih, List.length_cons, Nat.add_mul]
    omega
theorem flat_snoc (l : List α) (a : α) : flat f (l ++ [a]) = flat f l ++ f a := by simp [flat]
theorem flat_get (hf : ∀ a, (f a).length = n) (l : List α) (k j : Nat) (hk : k < l.length) (hj : j < n) : (flat f l)[k * n + j]? = (f l[k])[j]? := by
  induction l generalizing k with
  | nil => simp at hk
  | cons a l ih =>
    have e : flat f (a :: l) = f a ++ flat f l := by simp [flat]
    rw [e]
    cases k with
    | zero =>
      rw [Nat.zero_mul, Nat.zero_add, List.getElem?_append_left (by rw [hf]; exact hj)]
      rfl
    | succ k =>
      rw [List.getElem?_append_right (by rw [hf, Nat.add_mul]; omega), hf, show (k + 1) * n + j - n = k * n + j from by rw [Nat.add_mul]; omega]
      rw [ih k (by simpa using hk)]
      rfl
theorem flat_set (hf : ∀ a, (f a).length = n) (l : List α) (k j : Nat) (hk : k < l.length) (hj : j < n) (v : Value) (b : α) (hb : f b = (f l[k]).set j v) : (flat f l).set (k * n + j) v = flat f (l.set k b) := by
  induction l generalizing k with
  | nil => simp at hk
  | cons a l ih =>
    have e : ∀ (a : α) (l : List α), flat f (a :: l) = f a ++ flat f l := fun a l => by simp [flat]
    cases k with
    | zero =>
      rw [Nat.zero_mul, Nat.zero_add, List.set_cons_zero, e, e, hb, List.set_append_left _ _ (by rw [hf]; exact hj)]
      rfl
    | succ k =>
      rw [List.set_cons_succ, e, e, List.set_append_right _ _ (by rw [hf, Nat.add_mul]; omega), hf, show (k + 1) * n + j - n = k * n + j from by rw [Nat.add_mul]; omega]
      rw [ih k (by simpa using hk) hb]
end
/-- A box's cells. -/
def bxC (b : Bx) : List Value := [.int .i64 b.d, .int .i64 b.k, .int .i64 b.s, .int .i64 b.c, .int .i64 b.w, .int .i64 b.h, .int .i64 b.m0, .int .i64 b.m1, .int .i64 b.m2, .int .i64 b.m3, .int .i64 b.e0, .int .i64 b.e1, .int .i64 b.e2, .int .i64 b.e3]
theorem bxC_len (b : Bx) : (bxC b).length = 14 := rfl
theorem bxC_one (b : Bx) : ∀ u ∈ bxC b, u.oneCell' = true := by simp [bxC, Value.oneCell']
theorem Bxs.range {w : World} {B off : Nat} {L : List Bx} (h : Bxs w B off L) {k : Nat} (hk : k < L.length) : w.rangeAt B (off + k * 14) (bxC (at_ L k)) := by
  obtain ⟨⟨a0, a1, a2, a3⟩, ⟨a4, a5⟩, ⟨a6, a7, a8, a9⟩, ⟨a10, a11, a12, a13⟩⟩ := h k hk
  intro j v hv
  unfold bxC at hv
  match j, hv with
  | 0, hv => simp at hv; subst hv; assumption
  | 1, hv => simp at hv; subst hv; assumption
  | 2, hv => simp at hv; subst hv; assumption
  | 3, hv => simp at hv; subst hv; assumption
  | 4, hv => simp at hv; subst hv; assumption
  | 5, hv => simp at hv; subst hv; assumption
  | 6, hv => simp at hv; subst hv; assumption
  | 7, hv => simp at hv; subst hv; assumption
  | 8, hv => simp at hv; subst hv; assumption
  | 9, hv => simp at hv; subst hv; assumption
  | 10, hv => simp at hv; subst hv; assumption
  | 11, hv => simp at hv; subst hv; assumption
  | 12, hv => simp at hv; subst hv; assumption
  | 13, hv => simp at hv; subst hv; assumption
  | j + 14, hv => simp at hv
/-- Boxes whose cells lie one behind the other. -/
theorem Bxs.of_cells {w : World} {B off : Nat} {L : List Bx} (h : ∀ k, k < L.length → ∀ j, j < 14 → w.cell? ⟨B, off + k * 14 + j, none⟩ = (bxC (at_ L k))[j]?) : Bxs w B off L := fun k hk =>
  ⟨⟨h k hk 0 (by omega), h k hk 1 (by omega), h k hk 2 (by omega), h k hk 3 (by omega)⟩, ⟨h k hk 4 (by omega), h k hk 5 (by omega)⟩, ⟨h k hk 6 (by omega), h k hk 7 (by omega), h k hk 8 (by omega), h k hk 9 (by omega)⟩, ⟨h k hk 10 (by omega), h k hk 11 (by omega), h k hk 12 (by omega), h k hk 13 (by omega)⟩⟩
theorem at_eq (L : List Bx) (k : Nat) (hk : k < L.length) : at_ L k = L[k] := by unfold at_; simp [List.getD_eq_getElem?_getD, List.getElem?_eq_getElem hk]
/-- A slice of the call's own holds boxes. -/
theorem Bxs.of_own {w : World} {base e g n cap : Nat} {L : List Bx} (h : w.ownsRow base e 14 (.slice (some ⟨g, 0, none⟩) n cap) L.length (flat bxC L)) : Bxs w g 0 L := by
  refine Bxs.of_cells fun k hk j hj => ?_
  have hl := flat_len bxC_len L
  rw [Nat.zero_add, at_eq L k hk]
  have hg := flat_get bxC_len L k j hk hj
  rw [← hg]
  obtain ⟨u, hu⟩ : ∃ u, (flat bxC L)[k * 14 + j]? = some u := ⟨_, List.getElem?_eq_getElem (by rw [hl]; omega)⟩
  rw [hu]
  have := h.cells (g := g) rfl _ u hu
  rwa [Addr.add_mid, Nat.zero_add] at this
/-- A slice reads as these boxes. -/
def IsBxs (w : World) (v : Value) (L : List Bx) : Prop := ∃ (A : Option Addr) (cap : Nat), v = .slice A L.length cap ∧ L.length ≤ cap ∧ (0 < L.length → ∃ g o, A = some ⟨g, o, none⟩ ∧ Bxs w g o L)
theorem IsBxs.below {w w' : World} {v : Value} {L : List Bx} {n : Nat} (h : IsBxs w v L) (hb : Below n w w') (hn : w.heap.size ≤ n) : IsBxs w' v L := by
  obtain ⟨A, cap, rfl, hc, h⟩ := h
  refine ⟨A, cap, rfl, hc, fun hp => ?_⟩
  obtain ⟨g, o, rfl, hB⟩ := h hp
  exact ⟨g, o, rfl, hB.below hb (by have := hB.lt hp; omega)⟩
end Go.Proofs.Ytpjngnkcjccbcaa
