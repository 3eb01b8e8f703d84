/- How a slice of wants that came in is opened. -/
import Derived.Test.YtecojcdmigmnhaaOwp
import Derived.Test.YtecojcdmigmnhaaPap
namespace Go.Proofs.Ytecojcdmigmnhaa
set_option linter.unusedSimpArgs false
set_option linter.unusedVariables false
open Go.ChangeShapes Go.WideShapes Go.ChangeAt Go.RowKit Go.Deep
section
variable {H : Type} {enc : TypeId × Value → H} {w : World} {base : Nat} {spare : Nat → Bool} {held : Bool}
instance : Inhabited Wp := ⟨wp0⟩
set_option maxRecDepth 20000 in
theorem open_wps {r : Reach} {b0 : Nat} {v : Value} {d : DataW H} {p : List MemPlace} (hv : Value.okWide Try.prog w r b0 81 v) (h : DataW.Trod enc Try.prog w base spare held 81 v d p) :
    ∃ L : List Wp, IsWps w v L ∧ L.length ≤ maxLen := by
  obtain ⟨a0, l0, c0, rfl⟩ := okWide_slice Try.underlying81 hv
  obtain ⟨fuel, hf⟩ := h
  rcases open_slice Try.underlying81 hf with ⟨h1, _⟩ | ⟨a, len, cap, m, n, D, Pl, h1, hb, hl, hm, hmm, hx, hi⟩
  · have h2 : Value.slice a0 l0 c0 = .slice none 0 0 := by simpa [Value.cells] using h1
    rw [h2]
    exact ⟨[], ⟨none, 0, rfl, Nat.le_refl _, fun h => absurd h (by decide)⟩, by decide⟩
  · have h2 : Value.slice a0 l0 c0 = .slice (some a) len cap := by simpa [Value.cells] using h1
    rw [h2]
    have hml : len ≤ m := by rw [hmm]; split <;> omega
    have ex : ∀ i, i < len → ∃ b : Wp, ∀ j, j < 7 → w.cell? ((a.add (i * 7)).add j) = (WpC b)[j]? := by
      intro i hil
      obtain ⟨cs, q1, q2⟩ := hi i (by omega)
      obtain ⟨b, e1, _, _⟩ := Wp_of_trod q2
      rw [cellsWp] at q1
      obtain ⟨_, q4, q5⟩ := World.cells?_some q1
      refine ⟨b, fun j hj => ?_⟩
      rw [q5 j hj, e1]
    obtain ⟨f, hfb⟩ := choose_lt ex
    have hmax : len ≤ maxLen := by omega
    refine ⟨(List.range len).map f, ⟨some a, cap, by simp, by simpa using hl, fun hp => ?_⟩, by simpa using hmax⟩
    have hlen : 0 < len := by simpa using hp
    have h0 := hfb 0 hlen 0 (by omega)
    have hsp : a.spot = none := by
      have : w.cell? ((a.add (0 * 7)).add 0) = some (.int .i64 (f 0).s) := h0
      have := spot_none this
      simpa [Addr.add] using this
    have hblk : a.block < w.heap.size := by
      have : w.cell? ((a.add (0 * 7)).add 0) = some (.int .i64 (f 0).s) := h0
      have h' := cell_lt this
      simpa [Addr.add, hsp] using h'
    obtain ⟨g, o, s⟩ := a
    simp only at hsp
    subst hsp
    refine ⟨g, o, rfl, hblk, fun k hk j u hu => ?_⟩
    have hk' : k < len := by simpa using hk
    have hj : j < 7 := (List.getElem?_eq_some_iff.1 hu).1
    have h3 := hfb k hk' j hj
    rw [Addr.add_mid, Addr.add_mid] at h3
    rw [h3]
    have : wpAt ((List.range len).map f) k = f k := by
      unfold wpAt
      simp [List.getD_eq_getElem?_getD, hk']
    rw [this] at hu
    exact hu
/-- What came in reads as it did. -/
theorem carry_wps {W W' : World} {v : Value} {d : DataW H} {p : List MemPlace} {sp : Nat → Bool} (h : DataW.Trod enc Try.prog W 0 (fun _ => true) true 81 v d p) (hb : Below W.heap.size W W') (hlt : ∀ x ∈ p, x.block < W.heap.size) (hs : ∀ x ∈ p, sp x.block = true) :
    DataW.Trod enc Try.prog W' 0 sp true 81 v d p :=
  WideElems.Trod_stays (by kernel_rfl) (by kernel_rfl) (by decide +kernel) h (fun x hx => hb.same (hlt x hx)) hs
end
end Go.Proofs.Ytecojcdmigmnhaa
