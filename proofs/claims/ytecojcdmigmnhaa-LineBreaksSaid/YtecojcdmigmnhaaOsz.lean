/- How sizes that came in are opened: one by itself, a slice of them. -/
import Derived.Test.YtecojcdmigmnhaaOg
import Derived.Test.YtecojcdmigmnhaaLna
namespace Go.Proofs.Ytecojcdmigmnhaa
set_option linter.unusedSimpArgs false
set_option linter.unusedVariables false
open Go.ChangeShapes Go.WideShapes Go.ChangeAt Go.RowKit Go.Deep
theorem cellsSz : Try.prog.cellsOf 67 = 2 := by kernel_rfl
def SzWf (q : Int × Int) : Prop := (Lit.int .i64 q.1).wf = true ∧ (Lit.int .i64 q.2).wf = true
def SzData {H : Type} (q : Int × Int) : DataW H := .agg [.lit (.int .i64 q.1), .lit (.int .i64 q.2)]
section
variable {H : Type} {enc : TypeId × Value → H} {w : World} {base : Nat} {spare : Nat → Bool} {held : Bool}
set_option maxRecDepth 20000 in
theorem Sz_of_trod {fuel : Nat} {cs : List Value} {x : DataW H × List MemPlace} (h : DataW.trod enc Try.prog w base spare held fuel 67 cs = some x) :
    ∃ q : Int × Int, cs = szC q ∧ SzWf q ∧ x = (SzData q, []) := by
  obtain ⟨xs, n, _, rfl, hl, hxl, hf⟩ := DataW.trod_struct Try.underlying67 h
  rw [cellsSz] at hl
  have hxl' : xs.length = 2 := hxl
  have ex : ∀ i, i < 2 → ∃ z, xs[i]? = some z := fun i hi => ⟨xs[i]'(by omega), List.getElem?_eq_getElem (by omega)⟩
  have f0 : DataW.trod enc Try.prog w base spare held n 3 ((cs.drop 0).take 1) = xs[0]? := (congrArg (fun k => DataW.trod enc Try.prog w base spare held n 3 ((cs.drop 0).take k)) cellsInt).symm.trans (hf 0 _ rfl)
  have f1 : DataW.trod enc Try.prog w base spare held n 3 ((cs.drop 1).take 1) = xs[1]? := (congrArg (fun k => DataW.trod enc Try.prog w base spare held n 3 ((cs.drop 1).take k)) cellsInt).symm.trans (hf 1 _ rfl)
  obtain ⟨s0, a0, b0, c0⟩ := int_at f0 (ex 0 (by omega)) (by omega)
  obtain ⟨s1, a1, b1, c1⟩ := int_at f1 (ex 1 (by omega)) (by omega)
  clear f0 f1 hf h ex
  refine ⟨⟨s0, s1⟩, ?_, ⟨b0, b1⟩, ?_⟩
  · match cs, hl with
    | [v0, v1], _ =>
      simp at a0 a1
      simp [szC, a0, a1]
  · match xs, hxl' with
    | [v0, v1], _ =>
      simp at c0 c1
      simp [SzData, c0, c1]
set_option maxRecDepth 20000 in
theorem open_Sz {r : Reach} {b0 : Nat} {v : Value} {d : DataW H} {p : List MemPlace} (hv : Value.okWide Try.prog w r b0 67 v) (h : DataW.Trod enc Try.prog w base spare held 67 v d p) :
    ∃ q : Int × Int, v = .agg #[.int .i64 q.1, .int .i64 q.2] ∧ d = SzData q ∧ p = [] ∧ SzWf q := by
  obtain ⟨cs, rfl, hsz⟩ := okWide_struct Try.underlying67 hv
  obtain ⟨fuel, hf⟩ := h
  obtain ⟨b, h1, h2, h3⟩ := Sz_of_trod hf
  obtain ⟨l⟩ := cs
  have h4 : l = szC b := h1
  subst h4
  simp only [Prod.mk.injEq] at h3
  exact ⟨b, rfl, h3.1, h3.2, h2⟩
set_option maxRecDepth 20000 in
theorem trodSz {n : Nat} {q : Int × Int} (hb : SzWf q) : DataW.trod enc Try.prog w base spare held (n + 2) 67 (szC q) = some (SzData q, []) := by
  obtain ⟨h0, h1⟩ := hb
  unfold DataW.trod
  simp [szC, Try.underlying67, cellsSz, cellsInt, trodInt h0, trodInt h1, SzData]
theorem shut_Sz {q : Int × Int} (hb : SzWf q) : DataW.Trod enc Try.prog w base spare held 67 (.agg #[.int .i64 q.1, .int .i64 q.2]) (SzData q) [] := ⟨2, trodSz hb⟩
set_option maxRecDepth 20000 in
theorem open_szs {r : Reach} {b0 : Nat} {v : Value} {d : DataW H} {p : List MemPlace} (hv : Value.okWide Try.prog w r b0 55 v) (h : DataW.Trod enc Try.prog w base spare held 55 v d p) :
    ∃ L : List (Int × Int), IsSl szC 2 w v L ∧ L.length ≤ maxLen := by
  obtain ⟨a0, l0, c0, rfl⟩ := okWide_slice Try.underlying55 hv
  obtain ⟨fuel, hf⟩ := h
  rcases open_slice Try.underlying55 hf with ⟨h1, _⟩ | ⟨a, len, cap, m, n, D, Pl, h1, hb, hl, hm, hmm, hx, hi⟩
  · have h2 : Value.slice a0 l0 c0 = .slice none 0 0 := by simpa [Value.cells] using h1
    rw [h2]
    exact ⟨[], IsSl.nil w, by decide⟩
  · have h2 : Value.slice a0 l0 c0 = .slice (some a) len cap := by simpa [Value.cells] using h1
    rw [h2]
    have hml : len ≤ m := by rw [hmm]; split <;> omega
    have ex : ∀ i, i < len → ∃ b : Int × Int, ∀ j, j < 2 → w.cell? ((a.add (i * 2)).add j) = (szC b)[j]? := by
      intro i hil
      obtain ⟨cs, q1, q2⟩ := hi i (by omega)
      obtain ⟨b, e1, _, _⟩ := Sz_of_trod q2
      rw [cellsSz] at q1
      obtain ⟨_, q4, q5⟩ := World.cells?_some q1
      refine ⟨b, fun j hj => ?_⟩
      rw [q5 j hj, e1]
    obtain ⟨f, hfb⟩ := choose_lt ex
    have hmax : len ≤ maxLen := by omega
    refine ⟨(List.range len).map f, ⟨some a, cap, by simp, by simpa using hl, Lib.hid fun hp => ?_⟩, by simpa using hmax⟩
    have hlen : 0 < len := by simpa using hp
    have h0 := hfb 0 hlen 0 (by omega)
    have hsp : a.spot = none := by
      have : w.cell? ((a.add (0 * 2)).add 0) = some (.int .i64 (f 0).1) := h0
      have := spot_none this
      simpa [Addr.add] using this
    have hblk : a.block < w.heap.size := by
      have : w.cell? ((a.add (0 * 2)).add 0) = some (.int .i64 (f 0).1) := h0
      have h' := cell_lt this
      simpa [Addr.add, hsp] using h'
    obtain ⟨g, o, s⟩ := a
    simp only at hsp
    subst hsp
    refine ⟨g, o, rfl, hblk, fun k hk j u hu => ?_⟩
    have hk' : k < len := by simpa using hk
    have hj : j < 2 := (List.getElem?_eq_some_iff.1 hu).1
    have h3 := hfb k hk' j hj
    rw [Addr.add_mid, Addr.add_mid] at h3
    rw [h3]
    simpa using hu
/-- What came in reads as it did. -/
theorem carry_szs {W W' : World} {v : Value} {d : DataW H} {p : List MemPlace} {sp : Nat → Bool} (h : DataW.Trod enc Try.prog W 0 (fun _ => true) true 55 v d p) (hb : Below W.heap.size W W') (hlt : ∀ x ∈ p, x.block < W.heap.size) (hs : ∀ x ∈ p, sp x.block = true) :
    DataW.Trod enc Try.prog W' 0 sp true 55 v d p :=
  WideElems.Trod_stays (by kernel_rfl) (by kernel_rfl) (by decide +kernel) h (fun x hx => hb.same (hlt x hx)) hs
end
end Go.Proofs.Ytecojcdmigmnhaa
