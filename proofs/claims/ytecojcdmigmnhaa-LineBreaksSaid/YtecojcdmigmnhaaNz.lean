/- A loop that looks from edge to edge comes to the highest place, plain. -/
import Derived.Test.YtecojcdmigmnhaaFst
import Derived.Test.YtecojcdmigmnhaaNx
namespace Go.Proofs.Ytecojcdmigmnhaa
set_option linter.unusedSimpArgs false
set_option linter.unusedVariables false
open Go.RowKit
theorem fold_edges (l : List Fo) : ∀ (S : List Sh), ∀ s ∈ l.foldl addS S, (∃ x ∈ S, s.t = x.t) ∨ isEdge l s.t := by
  induction l with
  | nil => exact fun S s hs => .inl ⟨s, hs, rfl⟩
  | cons f l ih =>
    intro S s hs
    rw [List.foldl_cons] at hs
    rcases ih _ s hs with ⟨x, hx, e⟩ | ⟨g, hg, hc, e⟩
    · have hx' : (∃ z ∈ S, x.t = z.t) ∨ (cnts f = true ∧ (x.t = f.y0 ∨ x.t = f.y1)) := by
        unfold addS at hx
        split at hx
        · rename_i hc
          have h1 := compS_mem _ _ _ hx
          obtain ⟨u, hu, rfl⟩ := List.mem_map.1 h1
          rw [upd_t]
          rcases cutS_mem _ _ _ _ hu with h2 | h2
          · rcases cutS_mem _ _ _ _ h2 with h3 | h3
            · exact .inl ⟨u, h3, rfl⟩
            · exact .inr ⟨hc, .inl h3⟩
          · exact .inr ⟨hc, .inr h2⟩
        · exact .inl ⟨x, hx, rfl⟩
      rcases hx' with ⟨z, hz, e2⟩ | ⟨hc, h2⟩
      · exact .inl ⟨z, hz, e.trans e2⟩
      · exact .inr ⟨f, by simp, hc, by rw [e]; exact h2⟩
    · exact .inr ⟨g, by simp [hg], hc, e⟩
theorem tops_edge (L : List Fo) : ∀ s ∈ shelves L, isEdge L s.t := fun s hs => by
  rcases fold_edges L [] s hs with ⟨x, hx, _⟩ | h
  · simp at hx
  · exact h
/-- The place at which one stops is the first one, or an edge. -/
theorem stop_edge (L : List Fo) (so : Int → Bool) (y : Int) (hy : -far < y) (hf : IsFirst so y (firstL so y (rest (full (shelves L)) y))) : firstL so y (rest (full (shelves L)) y) = y ∨ isEdge L (firstL so y (rest (full (shelves L)) y)) := by
  rcases firstL_mem so (rest (full (shelves L)) y) y with e | ⟨s, hs, e⟩
  · exact .inl e
  · have hs' : s ∈ full (shelves L) := List.mem_of_mem_drop hs
    rcases List.mem_cons.1 hs' with rfl | hs'
    · exfalso
      have h1 := hf.1
      rw [e] at h1
      have e2 : sh0.t = -far := rfl
      omega
    · right
      rw [e]
      exact tops_edge L s hs'
theorem next_step {L : List Fo} {so : Int → Bool} {y0 top y n : Int} {more : Bool} (hf : IsFirst so y0 top) (ht : top = y0 ∨ isEdge L top) (h1 : y0 ≤ y) (h2 : y ≤ top) (hs : so y = false) (hn : IsNext L y n more) : more = true ∧ y < n ∧ n ≤ top := by
  have hne : y ≠ top := fun e => by rw [e, hf.2.1] at hs; cases hs
  have hlt : y < top := by omega
  have he : isEdge L top := by
    rcases ht with e | e
    · omega
    · exact e
  cases more with
  | false => exact absurd hlt ((hn.2 rfl).2 top he)
  | true => exact ⟨rfl, (hn.1 rfl).2.1, (hn.1 rfl).2.2 top he hlt⟩
end Go.Proofs.Ytecojcdmigmnhaa
