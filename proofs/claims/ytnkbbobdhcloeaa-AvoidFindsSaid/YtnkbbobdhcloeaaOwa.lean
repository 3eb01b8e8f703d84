/- How a want that came in is opened: a struct of 5 numbers. -/
import Derived.Test.YtnkbbobdhcloeaaOg
import Derived.Test.YtnkbbobdhcloeaaWt9
namespace Go.Proofs.Ytnkbbobdhcloeaa
set_option linter.unusedSimpArgs false
set_option linter.unusedVariables false
open Go.ChangeShapes Go.WideShapes Go.ChangeAt Go.RowKit Go.Deep
theorem cellsWa : Try.prog.cellsOf 24 = 5 := by kernel_rfl
def WaC (q : Wa) : List Value := [.int .i64 q.a, .int .i64 q.b, .int .i64 q.wd, .int .i64 q.h, .int .i64 q.y]
def Wa.wf (q : Wa) : Prop := (Lit.int .i64 q.a).wf = true ∧ (Lit.int .i64 q.b).wf = true ∧ (Lit.int .i64 q.wd).wf = true ∧ (Lit.int .i64 q.h).wf = true ∧ (Lit.int .i64 q.y).wf = true
def Wa.data {H : Type} (q : Wa) : DataW H := .agg [.lit (.int .i64 q.a), .lit (.int .i64 q.b), .lit (.int .i64 q.wd), .lit (.int .i64 q.h), .lit (.int .i64 q.y)]
section
variable {H : Type} {enc : TypeId × Value → H} {w : World} {base : Nat} {spare : Nat → Bool} {held : Bool}
set_option maxRecDepth 20000 in
theorem Wa_of_trod {fuel : Nat} {cs : List Value} {x : DataW H × List MemPlace} (h : DataW.trod enc Try.prog w base spare held fuel 24 cs = some x) :
    ∃ q : Wa, cs = WaC q ∧ q.wf ∧ x = (q.data, []) := by
  obtain ⟨xs, n, _, rfl, hl, hxl, hf⟩ := DataW.trod_struct Try.underlying24 h
  rw [cellsWa] at hl
  have hxl' : xs.length = 5 := hxl
  have ex : ∀ i, i < 5 → ∃ z, xs[i]? = some z := fun i hi => ⟨xs[i]'(by omega), List.getElem?_eq_getElem (by omega)⟩
  have f0 : DataW.trod enc Try.prog w base spare held n 3 ((cs.drop 0).take 1) = xs[0]? := (congrArg (fun k => DataW.trod enc Try.prog w base spare held n 3 ((cs.drop 0).take k)) cellsInt).symm.trans (hf 0 _ rfl)
  have f1 : DataW.trod enc Try.prog w base spare held n 3 ((cs.drop 1).take 1) = xs[1]? := (congrArg (fun k => DataW.trod enc Try.prog w base spare held n 3 ((cs.drop 1).take k)) cellsInt).symm.trans (hf 1 _ rfl)
  have f2 : DataW.trod enc Try.prog w base spare held n 3 ((cs.drop 2).take 1) = xs[2]? := (congrArg (fun k => DataW.trod enc Try.prog w base spare held n 3 ((cs.drop 2).take k)) cellsInt).symm.trans (hf 2 _ rfl)
  have f3 : DataW.trod enc Try.prog w base spare held n 3 ((cs.drop 3).take 1) = xs[3]? := (congrArg (fun k => DataW.trod enc Try.prog w base spare held n 3 ((cs.drop 3).take k)) cellsInt).symm.trans (hf 3 _ rfl)
  have f4 : DataW.trod enc Try.prog w base spare held n 3 ((cs.drop 4).take 1) = xs[4]? := (congrArg (fun k => DataW.trod enc Try.prog w base spare held n 3 ((cs.drop 4).take k)) cellsInt).symm.trans (hf 4 _ rfl)
  obtain ⟨s0, a0, b0, c0⟩ := int_at f0 (ex 0 (by omega)) (by omega)
  obtain ⟨s1, a1, b1, c1⟩ := int_at f1 (ex 1 (by omega)) (by omega)
  obtain ⟨s2, a2, b2, c2⟩ := int_at f2 (ex 2 (by omega)) (by omega)
  obtain ⟨s3, a3, b3, c3⟩ := int_at f3 (ex 3 (by omega)) (by omega)
  obtain ⟨s4, a4, b4, c4⟩ := int_at f4 (ex 4 (by omega)) (by omega)
  clear f0 f1 f2 f3 f4 hf h ex
  refine ⟨⟨s0, s1, s2, s3, s4⟩, ?_, ⟨b0, b1, b2, b3, b4⟩, ?_⟩
  · match cs, hl with
    | [v0, v1, v2, v3, v4], _ =>
      simp at a0 a1 a2 a3 a4
      simp [WaC, a0, a1, a2, a3, a4]
  · match xs, hxl' with
    | [v0, v1, v2, v3, v4], _ =>
      simp at c0 c1 c2 c3 c4
      simp [Wa.data, c0, c1, c2, c3, c4]
set_option maxRecDepth 20000 in
theorem open_Wa {r : Reach} {b0 : Nat} {v : Value} {d : DataW H} {p : List MemPlace} (hv : Value.okWide Try.prog w r b0 24 v) (h : DataW.Trod enc Try.prog w base spare held 24 v d p) :
    ∃ q : Wa, v = .agg #[.int .i64 q.a, .int .i64 q.b, .int .i64 q.wd, .int .i64 q.h, .int .i64 q.y] ∧ d = q.data ∧ p = [] ∧ q.wf := by
  obtain ⟨cs, rfl, hsz⟩ := okWide_struct Try.underlying24 hv
  obtain ⟨fuel, hf⟩ := h
  obtain ⟨b, h1, h2, h3⟩ := Wa_of_trod hf
  obtain ⟨l⟩ := cs
  have h4 : l = WaC b := h1
  subst h4
  simp only [Prod.mk.injEq] at h3
  exact ⟨b, rfl, h3.1, h3.2, h2⟩
set_option maxRecDepth 20000 in
theorem trodWa {n : Nat} {q : Wa} (hb : q.wf) : DataW.trod enc Try.prog w base spare held (n + 2) 24 (WaC q) = some (q.data, []) := by
  obtain ⟨h0, h1, h2, h3, h4⟩ := hb
  unfold DataW.trod
  simp [WaC, Try.underlying24, cellsWa, cellsInt, trodInt h0, trodInt h1, trodInt h2, trodInt h3, trodInt h4, Wa.data]
theorem shut_Wa {q : Wa} (hb : q.wf) : DataW.Trod enc Try.prog w base spare held 24 (.agg #[.int .i64 q.a, .int .i64 q.b, .int .i64 q.wd, .int .i64 q.h, .int .i64 q.y]) q.data [] := ⟨2, trodWa hb⟩
end
end Go.Proofs.Ytnkbbobdhcloeaa
