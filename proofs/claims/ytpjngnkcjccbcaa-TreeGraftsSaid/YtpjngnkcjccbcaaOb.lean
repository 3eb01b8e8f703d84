/- How a slice of boxes that came in is opened. -/
import Derived.Test.YtpjngnkcjccbcaaOpen
import Derived.Test.YtpjngnkcjccbcaaFl
import Derived.Deep.Slices
namespace Go.Proofs.Ytpjngnkcjccbcaa
set_option linter.unusedSimpArgs false
set_option linter.unusedVariables false
open Go.ChangeShapes Go.WideShapes Go.ChangeAt Go.RowKit Go.Deep
section
variable {H : Type} {enc : TypeId × Value → H} {w : World} {base : Nat} {spare : Nat → Bool} {held : Bool}
theorem spot_none {a : Addr} {v : Value} (h : w.cell? a = some v) : a.spot = none := by
  unfold World.cell? at h
  split at h
  · cases hs : a.spot with
    | none => rfl
    | some s => simp [hs] at h
  · cases h
instance : Inhabited Bx := ⟨bx0⟩
set_option maxRecDepth 20000 in
theorem open_bxs {r : Reach} {b0 : Nat} {v : Value} {d : DataW H} {p : List MemPlace} (hv : Value.okWide Try.prog w r b0 39 v) (h : DataW.Trod enc Try.prog w base spare held 39 v d p) :
    ∃ L : List Bx, IsBxs w v L := by
  obtain ⟨a0, l0, c0, rfl⟩ := okWide_slice Try.underlying39 hv
  obtain ⟨fuel, hf⟩ := h
  rcases open_slice Try.underlying39 hf with ⟨h1, _⟩ | ⟨a, len, cap, m, n, D, Pl, h1, hb, hl, hm, hmm, hx, hi⟩
  · have h2 : Value.slice a0 l0 c0 = .slice none 0 0 := by simpa [Value.cells] using h1
    rw [h2]
    exact ⟨[], none, 0, rfl, Nat.le_refl _, fun h => absurd h (by decide)⟩
  · have h2 : Value.slice a0 l0 c0 = .slice (some a) len cap := by simpa [Value.cells] using h1
    rw [h2]
    have hml : len ≤ m := by rw [hmm]; split <;> omega
    have ex : ∀ i, i < len → ∃ b : Bx, ∀ j, j < 14 → w.cell? ((a.add (i * 14)).add j) = (bxC b)[j]? := by
      intro i hil
      obtain ⟨cs, q1, q2⟩ := hi i (by omega)
      obtain ⟨b, e1, _, _⟩ := box_of_trod q2
      rw [cellsBox] at q1
      obtain ⟨_, q4, q5⟩ := World.cells?_some q1
      refine ⟨b, fun j hj => ?_⟩
      rw [q5 j hj, e1]
      rfl
    obtain ⟨f, hfb⟩ := choose_lt ex
    refine ⟨(List.range len).map f, some a, cap, by simp, by simpa using hl, fun hp => ?_⟩
    have hlen : 0 < len := by simpa using hp
    have h0 := hfb 0 hlen 0 (by omega)
    have hsp : a.spot = none := by
      have : w.cell? ((a.add (0 * 14)).add 0) = some (.int .i64 (f 0).d) := h0
      have := spot_none this
      simpa [Addr.add] using this
    obtain ⟨g, o, s⟩ := a
    simp only at hsp
    subst hsp
    refine ⟨g, o, rfl, Bxs.of_cells fun k hk j hj => ?_⟩
    have hk' : k < len := by simpa using hk
    have h3 := hfb k hk' j hj
    rw [Addr.add_mid, Addr.add_mid] at h3
    rw [h3]
    have : at_ ((List.range len).map f) k = f k := by
      unfold at_
      simp [List.getD_eq_getElem?_getD, hk']
    rw [this]
/-- What came in reads as it did. -/
theorem carry_bxs {W W' : World} {v : Value} {d : DataW H} {p : List MemPlace} {sp : Nat → Bool} (h : DataW.Trod enc Try.prog W 0 (fun _ => true) true 39 v d p) (hb : Below W.heap.size W W') (hlt : ∀ x ∈ p, x.block < W.heap.size) (hs : ∀ x ∈ p, sp x.block = true) :
    DataW.Trod enc Try.prog W' 0 sp true 39 v d p :=
  WideElems.Trod_stays (by kernel_rfl) (by kernel_rfl) (by decide +kernel) h (fun x hx => hb.same (hlt x hx)) hs
end
end Go.Proofs.Ytpjngnkcjccbcaa
