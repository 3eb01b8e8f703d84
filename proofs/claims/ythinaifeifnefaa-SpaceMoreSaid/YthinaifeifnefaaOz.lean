/- Floats that came in take no more bytes than the form's reach. -/
import Derived.Test.YthinaifeifnefaaOg
import Derived.SizedLaws
namespace Go.Proofs.Ythinaifeifnefaa
set_option linter.unusedSimpArgs false
set_option linter.unusedVariables false
open Go.ChangeShapes Go.WideShapes Go.ChangeAt Go.RowKit Go.Deep
theorem bytesFlo : Try.prog.bytesOf 45 = 40 := by kernel_rfl
theorem fos_sized {H : Type} {enc : TypeId × Value → H} {w : World} {base : Nat} {spare : Nat → Bool} {held : Bool} {v : Value} {d : DataW H} {p : List MemPlace} {L : List Fo} (h : DataW.Trod enc Try.prog w base spare held 22 v d p) (hL : IsFos w v L) (hz : ∀ m ∈ d.weights Try.prog 22, m ≤ reachBytes) : L.length * 40 ≤ 140737488351232 := by
  obtain ⟨A, cap0, rfl, _, _⟩ := hL
  obtain ⟨fuel, hf⟩ := h
  rcases open_slice Try.underlying22 hf with ⟨h1, _⟩ | ⟨a, len, cap, m, n, D, Pl, h1, hb, hl, hm, hmm, hx, hi⟩
  · have h2 : L.length = 0 := by
      have : Value.slice A L.length cap0 = .slice none 0 0 := by simpa [Value.cells] using h1
      injection this
    omega
  · have h2 : L.length = len := by
      have : Value.slice A L.length cap0 = .slice (some a) len cap := by simpa [Value.cells] using h1
      injection this
    have hd : d = .slice ((List.range len).map D) ((List.range (m - len)).map fun j => D (len + j)) := congrArg Prod.fst hx
    subst hd
    have h3 := hz ((((List.range len).map D).length + ((List.range (m - len)).map fun j => D (len + j)).length) * Try.prog.bytesOf 45) (by
      simp [DataW.weights, Try.underlying22])
    rw [bytesFlo] at h3
    have h4 : reachBytes = 140737488351232 := rfl
    rw [h4] at h3
    simp only [List.length_map, List.length_range] at h3
    rw [h2]
    have h5 : len * 40 ≤ (len + (m - len)) * 40 := Nat.mul_le_mul_right _ (Nat.le_add_right _ _)
    omega
end Go.Proofs.Ythinaifeifnefaa
