/- Spaces, plain: the lowest top of floats, the lowest bottom of those that are cleared. -/
import Derived.Test.YtecojcdmigmnhaaSp9
namespace Go.Proofs.Ytecojcdmigmnhaa
set_option linter.unusedSimpArgs false
set_option linter.unusedVariables false
open Go.RowKit
def rch (e : Int × Bool) (n : Int) : Int × Bool := if e.2 = false ∨ e.1 < n then (n, true) else e
theorem rch_cases (a n : Int) (t : Bool) : (t = false ∧ rch (a, t) n = (n, true)) ∨ (t = true ∧ decide (a < n) = true ∧ rch (a, t) n = (n, true)) ∨ (t = true ∧ decide (a < n) = false ∧ rch (a, t) n = (a, t)) := by
  unfold rch
  cases t with
  | false => left; exact ⟨rfl, by simp⟩
  | true =>
    right
    by_cases h : a < n
    · left; exact ⟨rfl, decide_eq_true h, by simp [h]⟩
    · right; exact ⟨rfl, decide_eq_false h, by simp [h]⟩
theorem rch_true (e : Int × Bool) (n : Int) : (rch e n).2 = true := by
  obtain ⟨a, t⟩ := e
  rcases rch_cases a n t with ⟨_, h⟩ | ⟨_, _, h⟩ | ⟨k, _, h⟩ <;> rw [h]
  exact k
theorem rch_ge (e : Int × Bool) (n : Int) : n ≤ (rch e n).1 := by
  unfold rch
  by_cases h : e.2 = false ∨ e.1 < n
  · rw [if_pos h]; exact Int.le_refl _
  · rw [if_neg h]; omega
theorem rch_up (e : Int × Bool) (n : Int) (he : e.2 = true) : e.1 ≤ (rch e n).1 := by
  unfold rch
  rw [he]
  by_cases h : e.1 < n
  · rw [if_pos (.inr h)]; show e.1 ≤ n; omega
  · rw [if_neg (by simp [h])]; exact Int.le_refl _
def lastS (L : List Fo) : Int × Bool := L.foldl (fun e f => rch e f.y0) (0, false)
def bt1 (c : Int) (f : Fo) (e : Int × Bool) : Int × Bool := if c = f.s ∨ c = 3 then rch e f.y1 else e
def botS (c : Int) (L : List Fo) : Int × Bool := L.foldl (fun e f => bt1 c f e) (0, false)
def clrS (c : Int) (L : List Fo) (y : Int) : Int := if (botS c L).2 = true then max y (botS c L).1 else y
theorem lastS_snoc (L : List Fo) (f : Fo) : lastS (L ++ [f]) = rch (lastS L) f.y0 := by simp [lastS]
theorem botS_snoc (c : Int) (L : List Fo) (f : Fo) : botS c (L ++ [f]) = bt1 c f (botS c L) := by simp [botS]
def sided (L : List Fo) : Bool := L.all fun f => decide (f.s = 1 ∨ f.s = 2)
theorem sided_at {L : List Fo} (h : sided L = true) : ∀ f ∈ L, f.s = 1 ∨ f.s = 2 := fun f hf => by
  have := List.all_eq_true.1 h f hf
  simpa using this
theorem botS_none {L : List Fo} (h : ∀ f ∈ L, f.s = 1 ∨ f.s = 2) {c : Int} (hc : c ≤ 0 ∨ 3 < c) : botS c L = (0, false) := by
  unfold botS
  induction L with
  | nil => rfl
  | cons f l ih =>
    rw [List.foldl_cons]
    have hf := h f (by simp)
    have e : bt1 c f (0, false) = (0, false) := by unfold bt1; rw [if_neg (by omega)]
    rw [e]
    exact ih fun g hg => h g (by simp [hg])
theorem lastS_some (L : List Fo) : (lastS L).2 = decide (0 < L.length) ∧ ((lastS L).2 = false → (lastS L).1 = 0) := by
  rcases List.eq_nil_or_concat L with rfl | ⟨l, f, rfl⟩
  · exact ⟨rfl, fun _ => rfl⟩
  · rw [List.concat_eq_append, lastS_snoc, rch_true]
    exact ⟨by simp, fun h => by simp at h⟩
theorem bt1_up (c : Int) (f : Fo) (e : Int × Bool) (he : e.2 = true) : (bt1 c f e).2 = true ∧ e.1 ≤ (bt1 c f e).1 := by
  unfold bt1
  split
  · exact ⟨rch_true _ _, rch_up _ _ he⟩
  · exact ⟨he, Int.le_refl _⟩
theorem clr_more (c : Int) (L : List Fo) (f : Fo) (y : Int) : clrS c L y ≤ clrS c (L ++ [f]) y := by
  unfold clrS
  rw [botS_snoc]
  by_cases h : (botS c L).2 = true
  · obtain ⟨h1, h2⟩ := bt1_up c f _ h
    rw [if_pos h, if_pos h1]
    omega
  · rw [if_neg h]
    split <;> omega
theorem clr_le (c : Int) (L : List Fo) (y : Int) : y ≤ clrS c L y := by unfold clrS; split <;> omega
/-- How many rows something takes. -/
def hgh (h : Int) : Int := max h 1
theorem hgh_eq (h : Int) : hgh h = if h < 1 then 1 else h := by unfold hgh; split <;> omega
/-- What floats leave free in the rows of something. -/
def bnds (L : List Fo) (y h : Int) : Int × Int := band L y (y + hgh h)
def freeS (L : List Fo) (a b y h : Int) : Int × Int := (max a (bnds L y h).1, min b (bnds L y h).2)
end Go.Proofs.Ytecojcdmigmnhaa
