/- The law ShelfOrder: plain. -/
import Derived.Test.YthinaifeifnefaaSr9
namespace Go.Proofs.Ythinaifeifnefaa
set_option linter.unusedSimpArgs false
set_option linter.unusedVariables false
open Go.RowKit
def turned (L : List Fo) (k : Nat) : List Fo := L.drop k ++ L.take k ++ L.take k
theorem turned_mem (L : List Fo) (k : Nat) (f : Fo) : f ∈ turned L k ↔ f ∈ L := by
  unfold turned
  have h := List.mem_append (a := f) (s := L.take k) (t := L.drop k)
  rw [List.take_append_drop] at h
  rw [h]
  simp only [List.mem_append]
  constructor
  · rintro ((h | h) | h)
    · exact .inr h
    · exact .inl h
    · exact .inl h
  · rintro (h | h)
    · exact .inr h
    · exact .inl (.inl h)
theorem turned_small {L : List Fo} (h : ∀ f ∈ L, smallF f = true) (k : Nat) : ∀ f ∈ turned L k, smallF f = true := fun f hf => h f ((turned_mem L k f).1 hf)
theorem turned_same {L : List Fo} (h : ∀ f ∈ L, smallF f = true) (k : Nat) : shelves (turned L k) = shelves L :=
  is_unique (shelves_is _ (small_low (turned_small h k))) (shelves_is L (small_low h)) (fun z _ => bnd_perm _ _ (turned_mem L k) z)
theorem part_more {L : List Fo} (h : ∀ f ∈ L, smallF f = true) (k : Nat) (a b : Int) (ha : -far ≤ a) :
    (fbB (full (shelves (L.take k))) a b).1 ≤ (fbB (full (shelves L)) a b).1 ∧ (fbB (full (shelves L)) a b).2 ≤ (fbB (full (shelves (L.take k))) a b).2 :=
  band_more (fbB_is (shelves_is _ (small_low fun f hf => h f (List.mem_of_mem_take hf))) a b ha) (fbB_is (shelves_is L (small_low h)) a b ha) (fun y => bnd_more _ _ (fun f hf => List.mem_of_mem_take hf) y)
end Go.Proofs.Ythinaifeifnefaa
