/- How a want that came in is opened: a struct of 7 numbers. -/
import Derived.Test.YtecojcdmigmnhaaOg
import Derived.Test.YtecojcdmigmnhaaWt9
namespace Go.Proofs.Ytecojcdmigmnhaa
set_option linter.unusedSimpArgs false
set_option linter.unusedVariables false
open Go.ChangeShapes Go.WideShapes Go.ChangeAt Go.RowKit Go.Deep
theorem cellsWp : Try.prog.cellsOf 84 = 7 := by kernel_rfl
def WpC (q : Wp) : List Value := [.int .i64 q.s, .int .i64 q.c, .int .i64 q.a, .int .i64 q.b, .int .i64 q.wd, .int .i64 q.h, .int .i64 q.y]
def Wp.wf (q : Wp) : Prop := (Lit.int .i64 q.s).wf = true ∧ (Lit.int .i64 q.c).wf = true ∧ (Lit.int .i64 q.a).wf = true ∧ (Lit.int .i64 q.b).wf = true ∧ (Lit.int .i64 q.wd).wf = true ∧ (Lit.int .i64 q.h).wf = true ∧ (Lit.int .i64 q.y).wf = true
def Wp.data {H : Type} (q : Wp) : DataW H := .agg [.lit (.int .i64 q.s), .lit (.int .i64 q.c), .lit (.int .i64 q.a), .lit (.int .i64 q.b), .lit (.int .i64 q.wd), .lit (.int .i64 q.h), .lit (.int .i64 q.y)]
section
variable {H : Type} {enc : TypeId × Value → H} {w : World} {base : Nat} {spare : Nat → Bool} {held : Bool}
set_option maxRecDepth 20000 in
theorem Wp_of_trod {fuel : Nat} {cs : List Value} {x : DataW H × List MemPlace} (h : DataW.trod enc Try.prog w base spare held fuel 84 cs = some x) :
    ∃ q : Wp, cs = WpC q ∧ q.wf ∧ x = (q.data, []) := by
  obtain ⟨xs, n, _, rfl, hl, hxl, hf⟩ := DataW.trod_struct Try.underlying84 h
  rw [cellsWp] at hl
  have hxl' : xs.length = 7 := hxl
  have ex : ∀ i, i < 7 → ∃ z, xs[i]? = some z := fun i hi => ⟨xs[i]'(by omega), List.getElem?_eq_getElem (by omega)⟩
  have f0 : DataW.trod enc Try.prog w base spare held n 3 ((cs.drop 0).take 1) = xs[0]? := (congrArg (fun k => DataW.trod enc Try.prog w base spare held n 3 ((cs.drop 0).take k)) cellsInt).symm.trans (hf 0 _ rfl)
  have f1 : DataW.trod enc Try.prog w base spare held n 3 ((cs.drop 1).take 1) = xs[1]? := (congrArg (fun k => DataW.trod enc Try.prog w base spare held n 3 ((cs.drop 1).take k)) cellsInt).symm.trans (hf 1 _ rfl)
  have f2 : DataW.trod enc Try.prog w base spare held n 3 ((cs.drop 2).take 1) = xs[2]? := (congrArg (fun k => DataW.trod enc Try.prog w base spare held n 3 ((cs.drop 2).take k)) cellsInt).symm.trans (hf 2 _ rfl)
  have f3 : DataW.trod enc Try.prog w base spare held n 3 ((cs.drop 3).take 1) = xs[3]? := (congrArg (fun k => DataW.trod enc Try.prog w base spare held n 3 ((cs.drop 3).take k)) cellsInt).symm.trans (hf 3 _ rfl)
  have f4 : DataW.trod enc Try.prog w base spare held n 3 ((cs.drop 4).take 1) = xs[4]? := (congrArg (fun k => DataW.trod enc Try.prog w base spare held n 3 ((cs.drop 4).take k)) cellsInt).symm.trans (hf 4 _ rfl)
  have f5 : DataW.trod enc Try.prog w base spare held n 3 ((cs.drop 5).take 1) = xs[5]? := (congrArg (fun k => DataW.trod enc Try.prog w base spare held n 3 ((cs.drop 5).take k)) cellsInt).symm.trans (hf 5 _ rfl)
  have f6 : DataW.trod enc Try.prog w base spare held n 3 ((cs.drop 6).take 1) = xs[6]? := (congrArg (fun k => DataW.trod enc Try.prog w base spare held n 3 ((cs.drop 6).take k)) cellsInt).symm.trans (hf 6 _ rfl)
  obtain ⟨s0, a0, b0, c0⟩ := int_at f0 (ex 0 (by omega)) (by omega)
  obtain ⟨s1, a1, b1, c1⟩ := int_at f1 (ex 1 (by omega)) (by omega)
  obtain ⟨s2, a2, b2, c2⟩ := int_at f2 (ex 2 (by omega)) (by omega)
  obtain ⟨s3, a3, b3, c3⟩ := int_at f3 (ex 3 (by omega)) (by omega)
  obtain ⟨s4, a4, b4, c4⟩ := int_at f4 (ex 4 (by omega)) (by omega)
  obtain ⟨s5, a5, b5, c5⟩ := int_at f5 (ex 5 (by omega)) (by omega)
  obtain ⟨s6, a6, b6, c6⟩ := int_at f6 (ex 6 (by omega)) (by omega)
  clear f0 f1 f2 f3 f4 f5 f6 hf h ex
  refine ⟨⟨s0, s1, s2, s3, s4, s5, s6⟩, ?_, ⟨b0, b1, b2, b3, b4, b5, b6⟩, ?_⟩
  · match cs, hl with
    | [v0, v1, v2, v3, v4, v5, v6], _ =>
      simp at a0 a1 a2 a3 a4 a5 a6
      simp [WpC, a0, a1, a2, a3, a4, a5, a6]
  · match xs, hxl' with
    | [v0, v1, v2, v3, v4, v5, v6], _ =>
      simp at c0 c1 c2 c3 c4 c5 c6
      simp [Wp.data, c0, c1, c2, c3, c4, c5, c6]
set_option maxRecDepth 20000 in
theorem open_Wp {r : Reach} {b0 : Nat} {v : Value} {d : DataW H} {p : List MemPlace} (hv : Value.okWide Try.prog w r b0 84 v) (h : DataW.Trod enc Try.prog w base spare held 84 v d p) :
    ∃ q : Wp, v = .agg #[.int .i64 q.s, .int .i64 q.c, .int .i64 q.a, .int .i64 q.b, .int .i64 q.wd, .int .i64 q.h, .int .i64 q.y] ∧ d = q.data ∧ p = [] ∧ q.wf := by
  obtain ⟨cs, rfl, hsz⟩ := okWide_struct Try.underlying84 hv
  obtain ⟨fuel, hf⟩ := h
  obtain ⟨b, h1, h2, h3⟩ := Wp_of_trod hf
  obtain ⟨l⟩ := cs
  have h4 : l = WpC b := h1
  subst h4
  simp only [Prod.mk.injEq] at h3
  exact ⟨b, rfl, h3.1, h3.2, h2⟩
set_option maxRecDepth 20000 in
theorem trodWp {n : Nat} {q : Wp} (hb : q.wf) : DataW.trod enc Try.prog w base spare held (n + 2) 84 (WpC q) = some (q.data, []) := by
  obtain ⟨h0, h1, h2, h3, h4, h5, h6⟩ := hb
  unfold DataW.trod
  simp [WpC, Try.underlying84, cellsWp, cellsInt, trodInt h0, trodInt h1, trodInt h2, trodInt h3, trodInt h4, trodInt h5, trodInt h6, Wp.data]
theorem shut_Wp {q : Wp} (hb : q.wf) : DataW.Trod enc Try.prog w base spare held 84 (.agg #[.int .i64 q.s, .int .i64 q.c, .int .i64 q.a, .int .i64 q.b, .int .i64 q.wd, .int .i64 q.h, .int .i64 q.y]) q.data [] := ⟨2, trodWp hb⟩
end
end Go.Proofs.Ytecojcdmigmnhaa
