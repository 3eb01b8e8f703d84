/- The law SpaceFirst, plain: what is asked, in order. -/
import Derived.Test.YtecojcdmigmnhaaWt9
namespace Go.Proofs.Ytecojcdmigmnhaa
set_option linter.unusedSimpArgs false
set_option linter.unusedVariables false
open Go.RowKit
/-- What the law asks at a height. -/
def soF (L : List Fo) (wd h y : Int) : Bool := decide (wd ≤ (freeS L 0 20 y h).2 - (freeS L 0 20 y h).1)
theorem soF_first {L : List Fo} (hl : Lowish L) {wd h y : Int} (hy : -far ≤ y) (hw : wd ≤ 20) : IsFirst (soF L wd h) y (firstL (soF L wd h) y (rest (full (shelves L)) y)) := by
  refine first_is hl (fun a b h1 h2 h3 h4 => ?_) (fun y _ => ?_) _ y rfl hy
  · have hm := bnds_mono (h := h) h2 h3
    unfold soF freeS at h4 ⊢
    simp only [decide_eq_true_eq] at h4 ⊢
    omega
  · obtain ⟨z, h1, h2⟩ := beyond L y
    refine ⟨z, h1, ?_⟩
    unfold soF freeS
    rw [bnds_beyond h2]
    unfold far
    simp only [decide_eq_true_eq]
    omega
/-- Where the law's loop stops. -/
def IsN (so : Int → Bool) (T : List Int) (n : Nat) : Prop := n < T.length ∧ (∀ m, m < n → so (T.getD m 0) = false) ∧ (n + 1 = T.length ∨ so (T.getD n 0) = true)
theorem ask_take (so : Int → Bool) : ∀ (S : List Sh) (y : Int) (n : Nat), IsN so (y :: S.map (·.t)) n → firstL so y S = (y :: S.map (·.t)).getD n 0 ∧ askL so y S = (y :: S.map (·.t)).take (n + 1)
  | [], y, n, h => by
    have : n = 0 := by have := h.1; simp at this; exact this
    subst this
    exact ⟨rfl, rfl⟩
  | s :: S, y, n, h => by
    obtain ⟨h1, h2, h3⟩ := h
    by_cases hs : so y = true
    · have : n = 0 := by
        rcases Nat.eq_zero_or_pos n with e | e
        · exact e
        · have := h2 0 e
          simp at this
          rw [hs] at this
          cases this
      subst this
      rw [(firstL_true hs _).1, (firstL_true hs _).2]
      exact ⟨rfl, rfl⟩
    · have hs' : so y = false := by simpa using hs
      obtain ⟨m, rfl⟩ : ∃ m, n = m + 1 := by
        rcases Nat.eq_zero_or_pos n with e | e
        · exfalso
          subst e
          rcases h3 with h3 | h3
          · simp at h3
          · exact hs h3
        · exact ⟨n - 1, by omega⟩
      rw [(firstL_false hs' s S).1, (firstL_false hs' s S).2]
      have ih := ask_take so S s.t m ⟨by simpa using h1, fun k hk => by simpa using h2 (k + 1) (by omega), by
        rcases h3 with h3 | h3
        · left; simpa using h3
        · right; simpa using h3⟩
      rw [ih.1, ih.2]
      exact ⟨rfl, rfl⟩
theorem rest_filter {F : List Sh} (h : Asc F) (y : Int) : F.filter (fun s => decide (y < s.t)) = rest F y := by
  have hb := below_spec F y h
  have e : F = F.take (below F y) ++ F.drop (below F y) := (List.take_append_drop _ _).symm
  have h1 : (F.take (below F y)).filter (fun s => decide (y < s.t)) = [] := by
    rw [List.filter_eq_nil_iff]
    intro s hs
    obtain ⟨j, hj, rfl⟩ := List.mem_iff_getElem.1 hs
    rw [List.length_take] at hj
    rw [List.getElem_take]
    intro hlt
    have := (hb.2 j (by omega)).2 (of_decide_eq_true hlt)
    omega
  have h2 : (F.drop (below F y)).filter (fun s => decide (y < s.t)) = F.drop (below F y) := by
    rw [List.filter_eq_self]
    intro s hs
    obtain ⟨j, hj, rfl⟩ := List.mem_iff_getElem.1 hs
    rw [List.getElem_drop]
    rw [List.length_drop] at hj
    exact decide_eq_true ((hb.2 (below F y + j) (by omega)).1 (by omega))
  unfold rest
  conv => lhs; rw [e]
  rw [List.filter_append, h1, h2, List.nil_append]
/-- The tops, after some shelves. -/
def topsF (F : List Sh) (y : Int) (k : Nat) : List Int := y :: ((F.take k).filter (fun s => decide (y < s.t))).map (·.t)
theorem topsF_step {F : List Sh} {y : Int} {k : Nat} (hk : k < F.length) : topsF F y (k + 1) = if y < F[k].t then topsF F y k ++ [F[k].t] else topsF F y k := by
  unfold topsF
  rw [List.take_succ_eq_append_getElem hk, List.filter_append, List.map_append]
  by_cases h : y < F[k].t
  · rw [if_pos h]
    simp [h]
  · rw [if_neg h]
    simp [h]
theorem topsF_end {F : List Sh} (h : Asc F) (y : Int) : topsF F y F.length = y :: (rest F y).map (·.t) := by
  unfold topsF
  rw [List.take_length, rest_filter h]
theorem topsF_len (F : List Sh) (y : Int) (k : Nat) : (topsF F y k).length ≤ F.length + 1 := by
  unfold topsF
  simp only [List.length_cons, List.length_map]
  have h1 := List.length_filter_le (fun s : Sh => decide (y < s.t)) (F.take k)
  have h2 : (F.take k).length ≤ F.length := by rw [List.length_take]; omega
  omega
end Go.Proofs.Ytecojcdmigmnhaa
