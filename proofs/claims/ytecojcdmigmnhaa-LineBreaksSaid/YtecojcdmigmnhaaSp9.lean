/- What the shelves of floats look like. -/
import Derived.Test.YtecojcdmigmnhaaBe
namespace Go.Proofs.Ytecojcdmigmnhaa
set_option linter.unusedSimpArgs false
set_option linter.unusedVariables false
open Go.RowKit
theorem canon_at : ∀ (S : List Sh) (d : Int × Int), Canon d S → ∀ i, (h : i < S.length) → (S[i].l, S[i].r) ≠ (if i = 0 then d else ((shAt S (i - 1)).l, (shAt S (i - 1)).r))
  | [], _, _, i, h => by simp at h
  | s :: S, d, hc, 0, h => by
    rw [if_pos rfl]
    exact hc.1
  | s :: S, d, hc, i + 1, h => by
    have h' : i < S.length := by simpa using h
    have := canon_at S (s.l, s.r) hc.2 i h'
    rw [if_neg (by omega)]
    by_cases h0 : i = 0
    · subst h0
      rw [if_pos rfl] at this
      exact this
    · rw [if_neg h0] at this
      have e : shAt (s :: S) (i + 1 - 1) = shAt S (i - 1) := by
        unfold shAt
        rw [show i + 1 - 1 = (i - 1) + 1 by omega, List.getD_cons_succ]
      rw [e]
      exact this
structure ShapeOk (F : List Sh) (n : Nat) : Prop where
  pos : 0 < F.length
  len : F.length ≤ 2 * n + 1
  first : (shAt F 0).t = -far
  asc : Asc F
  step : ∀ k, k + 1 < F.length → (shAt F k).t < (shAt F (k + 1)).t ∧ ((shAt F k).l ≠ (shAt F (k + 1)).l ∨ (shAt F k).r ≠ (shAt F (k + 1)).r)
  next : ∀ k, k + 1 < F.length → below F (shAt F k).t = k + 1
  last : (shAt F (F.length - 1)).l = -far ∧ (shAt F (F.length - 1)).r = far
theorem shape_ok {L : List Fo} (h : ∀ f ∈ L, smallF f = true) : ShapeOk (full (shelves L)) L.length := by
  have hi := shelves_is L (small_low h)
  have ha := full_asc hi.ok
  have hst : ∀ k, k + 1 < (full (shelves L)).length → (shAt (full (shelves L)) k).t < (shAt (full (shelves L)) (k + 1)).t := fun k hk => by
    rw [shAt_eq _ _ (by omega), shAt_eq _ _ hk]
    exact List.pairwise_iff_getElem.1 ha k (k + 1) (by omega) hk (by omega)
  refine ⟨by simp [full], by have := shelves_length L; simp [full]; omega, rfl, ha, fun k hk => ⟨hst k hk, ?_⟩, fun k hk => ?_, ?_⟩
  · have hk' : k < (shelves L).length := by simpa [full] using hk
    have h1 := canon_at _ _ hi.ok.can k hk'
    have e1 : shAt (full (shelves L)) (k + 1) = (shelves L)[k] := by rw [shAt_eq _ _ hk]; rfl
    rw [e1]
    have e0 : ((shAt (full (shelves L)) k).l, (shAt (full (shelves L)) k).r) = (if k = 0 then (-far, far) else ((shAt (shelves L) (k - 1)).l, (shAt (shelves L) (k - 1)).r)) := by
      by_cases h0 : k = 0
      · subst h0; rfl
      · rw [if_neg h0]
        have : shAt (full (shelves L)) k = shAt (shelves L) (k - 1) := by
          unfold shAt full
          rw [show k = (k - 1) + 1 by omega, List.getD_cons_succ]
          rfl
        rw [this]
    rw [← e0] at h1
    by_cases q : (shAt (full (shelves L)) k).l = (shelves L)[k].l
    · right
      intro q2
      exact h1 (by rw [q, q2])
    · exact .inl q
  · obtain ⟨h1, h2⟩ := below_spec (full (shelves L)) (shAt (full (shelves L)) k).t ha
    have a1 := (h2 (k + 1) hk).2 (by rw [← shAt_eq _ _ hk]; exact hst k hk)
    have a2 : ¬ below (full (shelves L)) (shAt (full (shelves L)) k).t ≤ k := fun hh => by
      have := (h2 k (by omega)).1 hh
      rw [shAt_eq _ _ (by omega)] at this
      omega
    omega
  · have hl := last_free hi
    by_cases h0 : (shelves L).length = 0
    · have e : shelves L = [] := List.eq_nil_of_length_eq_zero h0
      rw [e]
      exact ⟨rfl, rfl⟩
    · have e : shAt (full (shelves L)) ((full (shelves L)).length - 1) = (shelves L)[(shelves L).length - 1]'(by omega) := by
        rw [shAt_eq _ _ (by simp [full])]
        simp only [full, List.length_cons, Nat.add_sub_cancel]
        rw [List.getElem_cons, dif_neg (by omega)]
      rw [e]
      unfold lastP at hl
      rw [List.getLast?_eq_getElem?, List.getElem?_eq_getElem (by omega)] at hl
      simp only [Prod.mk.injEq] at hl
      exact hl
/-- What stands while a law looks at its shelves: only new blocks are laid. -/
def SInv (F : List Sh) (base lp g cap : Nat) (w wr : World) : Prop := ListIs wr base lp F ∧ wr.ownsRow base 162 3 (.slice (some ⟨g, 0, none⟩) F.length cap) F.length (flat shC F) ∧ Below w.heap.size w wr
theorem SInv.go {F : List Sh} {base lp g cap : Nat} {w wr w' : World} (h : SInv F base lp g cap w wr) (hb : Below wr.heap.size wr w') : SInv F base lp g cap w w' :=
  ⟨h.1.below hb (Nat.le_refl _), own_below h.2.1 hb, Below.onto hb h.2.2⟩
theorem few_small {L : List Fo} {m : Int} (h : fewB L m = true) : (∀ f ∈ L, smallF f = true) ∧ (L.length : Int) ≤ m := by
  unfold fewB at h
  rw [Bool.and_eq_true, List.all_eq_true, decide_eq_true_eq] at h
  exact h
end Go.Proofs.Ytecojcdmigmnhaa
