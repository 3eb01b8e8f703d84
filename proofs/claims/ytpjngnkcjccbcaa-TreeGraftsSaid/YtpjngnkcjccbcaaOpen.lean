/- How a box that came in is opened to its fourteen numbers. -/
import Derived.Test.YtpjngnkcjccbcaaRows
import Derived.Test.YtpjngnkcjccbcaaBx
import Derived.WalkKit
import Derived.ProofKit
import Derived.OpenShut
import Derived.Carry
namespace Go.Proofs.Ytpjngnkcjccbcaa
set_option linter.unusedSimpArgs false
set_option linter.unusedVariables false
open Go.ChangeShapes Go.WideShapes Go.ChangeAt Go.RowKit
section
variable {H : Type} {enc : TypeId × Value → H} {w : World} {base : Nat} {spare : Nat → Bool} {held : Bool}
theorem cellsBox : Try.prog.cellsOf 24 = 14 := by kernel_rfl
theorem cellsFour : Try.prog.cellsOf 22 = 4 := by kernel_rfl
theorem cellsInt : Try.prog.cellsOf 3 = 1 := by kernel_rfl
theorem int_at {fuel : Nat} {cs : List Value} {k : Nat} {y : Option (DataW H × List MemPlace)} (h : DataW.trod enc Try.prog w base spare held fuel 3 ((cs.drop k).take 1) = y) (hy : ∃ z, y = some z) (_hk : k < cs.length) :
    ∃ n : Int, cs[k]? = some (.int .i64 n) ∧ (Lit.int .i64 n).wf = true ∧ y = some (.lit (.int .i64 n), []) := by
  obtain ⟨z, rfl⟩ := hy
  obtain ⟨n, h1, h2, h3⟩ := DataW.trod_int Try.underlying3 h
  refine ⟨n, ?_, h3, by rw [h2]⟩
  have h4 := congrArg (fun l => l[0]?) h1
  simpa using h4
theorem four_at {fuel : Nat} {cs : List Value} {k : Nat} {y : Option (DataW H × List MemPlace)} (h : DataW.trod enc Try.prog w base spare held fuel 22 ((cs.drop k).take 4) = y) (hy : ∃ z, y = some z) (hk : k + 4 ≤ cs.length) :
    ∃ a b c d : Int, cs[k]? = some (.int .i64 a) ∧ cs[k+1]? = some (.int .i64 b) ∧ cs[k+2]? = some (.int .i64 c) ∧ cs[k+3]? = some (.int .i64 d) ∧
      (Lit.int .i64 a).wf = true ∧ (Lit.int .i64 b).wf = true ∧ (Lit.int .i64 c).wf = true ∧ (Lit.int .i64 d).wf = true ∧ y = some (.agg [.lit (.int .i64 a), .lit (.int .i64 b), .lit (.int .i64 c), .lit (.int .i64 d)], []) := by
  obtain ⟨z, rfl⟩ := hy
  obtain ⟨xs, m, _, rfl, _, hl, hx⟩ := DataW.trod_array Try.underlying22 h
  have e : ∀ i, i < 4 → ∃ n : Int, cs[k+i]? = some (.int .i64 n) ∧ (Lit.int .i64 n).wf = true ∧ xs[i]? = some (.lit (.int .i64 n), []) := by
    intro i hi
    have h1 := hx i hi
    rw [cellsInt] at h1
    obtain ⟨n, h2, h3, h4⟩ := int_at (cs := (cs.drop k).take 4) h1 ⟨xs[i]'(by omega), List.getElem?_eq_getElem (by omega)⟩ (by simp; omega)
    refine ⟨n, ?_, h3, h4⟩
    rw [← h2]
    simp [hi]
  obtain ⟨a, a1, a2, a3⟩ := e 0 (by omega)
  obtain ⟨b, b1, b2, b3⟩ := e 1 (by omega)
  obtain ⟨c, c1, c2, c3⟩ := e 2 (by omega)
  obtain ⟨d, d1, d2, d3⟩ := e 3 (by omega)
  refine ⟨a, b, c, d, a1, b1, c1, d1, a2, b2, c2, d2, ?_⟩
  match xs, hl with
  | [x0, x1, x2, x3], _ =>
    simp at a3 b3 c3 d3
    simp [a3, b3, c3, d3]
def Bx.wf (b : Bx) : Prop := ((Lit.int .i64 b.d).wf = true ∧ (Lit.int .i64 b.k).wf = true ∧ (Lit.int .i64 b.s).wf = true ∧ (Lit.int .i64 b.c).wf = true ∧ (Lit.int .i64 b.w).wf = true ∧ (Lit.int .i64 b.h).wf = true) ∧
  ((Lit.int .i64 b.m0).wf = true ∧ (Lit.int .i64 b.m1).wf = true ∧ (Lit.int .i64 b.m2).wf = true ∧ (Lit.int .i64 b.m3).wf = true) ∧ ((Lit.int .i64 b.e0).wf = true ∧ (Lit.int .i64 b.e1).wf = true ∧ (Lit.int .i64 b.e2).wf = true ∧ (Lit.int .i64 b.e3).wf = true)
def Bx.data {H : Type} (b : Bx) : DataW H := .agg [.lit (.int .i64 b.d), .lit (.int .i64 b.k), .lit (.int .i64 b.s), .lit (.int .i64 b.c), .lit (.int .i64 b.w), .lit (.int .i64 b.h), .agg [.lit (.int .i64 b.m0), .lit (.int .i64 b.m1), .lit (.int .i64 b.m2), .lit (.int .i64 b.m3)], .agg [.lit (.int .i64 b.e0), .lit (.int .i64 b.e1), .lit (.int .i64 b.e2), .lit (.int .i64 b.e3)]]
set_option maxRecDepth 20000 in
theorem box_of_trod {fuel : Nat} {cs : List Value} {x : DataW H × List MemPlace} (h : DataW.trod enc Try.prog w base spare held fuel 24 cs = some x) :
    ∃ b : Bx, cs = [.int .i64 b.d, .int .i64 b.k, .int .i64 b.s, .int .i64 b.c, .int .i64 b.w, .int .i64 b.h, .int .i64 b.m0, .int .i64 b.m1, .int .i64 b.m2, .int .i64 b.m3, .int .i64 b.e0, .int .i64 b.e1, .int .i64 b.e2, .int .i64 b.e3] ∧ b.wf ∧ x = (b.data, []) := by
  obtain ⟨xs, n, _, rfl, hl, hxl, hf⟩ := DataW.trod_struct Try.underlying24 h
  rw [cellsBox] at hl
  have hxl' : xs.length = 8 := hxl
  have ex : ∀ i, i < 8 → ∃ z, xs[i]? = some z := fun i hi => ⟨xs[i]'(by omega), List.getElem?_eq_getElem (by omega)⟩
  have f0 : DataW.trod enc Try.prog w base spare held n 3 ((cs.drop 0).take 1) = xs[0]? := (congrArg (fun k => DataW.trod enc Try.prog w base spare held n 3 ((cs.drop 0).take k)) cellsInt).symm.trans (hf 0 _ rfl)
  have f1 : DataW.trod enc Try.prog w base spare held n 3 ((cs.drop 1).take 1) = xs[1]? := (congrArg (fun k => DataW.trod enc Try.prog w base spare held n 3 ((cs.drop 1).take k)) cellsInt).symm.trans (hf 1 _ rfl)
  have f2 : DataW.trod enc Try.prog w base spare held n 3 ((cs.drop 2).take 1) = xs[2]? := (congrArg (fun k => DataW.trod enc Try.prog w base spare held n 3 ((cs.drop 2).take k)) cellsInt).symm.trans (hf 2 _ rfl)
  have f3 : DataW.trod enc Try.prog w base spare held n 3 ((cs.drop 3).take 1) = xs[3]? := (congrArg (fun k => DataW.trod enc Try.prog w base spare held n 3 ((cs.drop 3).take k)) cellsInt).symm.trans (hf 3 _ rfl)
  have f4 : DataW.trod enc Try.prog w base spare held n 3 ((cs.drop 4).take 1) = xs[4]? := (congrArg (fun k => DataW.trod enc Try.prog w base spare held n 3 ((cs.drop 4).take k)) cellsInt).symm.trans (hf 4 _ rfl)
  have f5 : DataW.trod enc Try.prog w base spare held n 3 ((cs.drop 5).take 1) = xs[5]? := (congrArg (fun k => DataW.trod enc Try.prog w base spare held n 3 ((cs.drop 5).take k)) cellsInt).symm.trans (hf 5 _ rfl)
  have f6 : DataW.trod enc Try.prog w base spare held n 22 ((cs.drop 6).take 4) = xs[6]? := (congrArg (fun k => DataW.trod enc Try.prog w base spare held n 22 ((cs.drop 6).take k)) cellsFour).symm.trans (hf 6 _ rfl)
  have f7 : DataW.trod enc Try.prog w base spare held n 22 ((cs.drop 10).take 4) = xs[7]? := (congrArg (fun k => DataW.trod enc Try.prog w base spare held n 22 ((cs.drop 10).take k)) cellsFour).symm.trans (hf 7 _ rfl)
  obtain ⟨d, d1, d2, d3⟩ := int_at f0 (ex 0 (by omega)) (by omega)
  obtain ⟨k, k1, k2, k3⟩ := int_at f1 (ex 1 (by omega)) (by omega)
  obtain ⟨s, s1, s2, s3⟩ := int_at f2 (ex 2 (by omega)) (by omega)
  obtain ⟨c, c1, c2, c3⟩ := int_at f3 (ex 3 (by omega)) (by omega)
  obtain ⟨wd, w1, w2, w3⟩ := int_at f4 (ex 4 (by omega)) (by omega)
  obtain ⟨ht, h1, h2, h3⟩ := int_at f5 (ex 5 (by omega)) (by omega)
  obtain ⟨m0, m1, m2, m3, p0, p1, p2, p3, q0, q1, q2, q3, pm⟩ := four_at f6 (ex 6 (by omega)) (by omega)
  obtain ⟨e0, e1, e2, e3, r0, r1, r2, r3, t0, t1, t2, t3, pe⟩ := four_at f7 (ex 7 (by omega)) (by omega)
  clear f0 f1 f2 f3 f4 f5 f6 f7 hf h ex
  refine ⟨⟨d, k, s, c, wd, ht, m0, m1, m2, m3, e0, e1, e2, e3⟩, ?_, ⟨⟨d2, k2, s2, c2, w2, h2⟩, ⟨q0, q1, q2, q3⟩, ⟨t0, t1, t2, t3⟩⟩, ?_⟩
  · match cs, hl with
    | [v0, v1, v2, v3, v4, v5, v6, v7, v8, v9, v10, v11, v12, v13], _ =>
      simp at d1 k1 s1 c1 w1 h1 p0 p1 p2 p3 r0 r1 r2 r3
      simp [d1, k1, s1, c1, w1, h1, p0, p1, p2, p3, r0, r1, r2, r3]
  · match xs, hxl' with
    | [x0, x1, x2, x3, x4, x5, x6, x7], _ =>
      simp at d3 k3 s3 c3 w3 h3 pm pe
      simp [Bx.data, d3, k3, s3, c3, w3, h3, pm, pe]
set_option maxRecDepth 20000 in
/-- A box by value. -/
theorem open_bx {r : Reach} {b0 : Nat} {v : Value} {d : DataW H} {p : List MemPlace} (hv : Value.okWide Try.prog w r b0 24 v) (h : DataW.Trod enc Try.prog w base spare held 24 v d p) :
    ∃ b : Bx, v = .agg #[.int .i64 b.d, .int .i64 b.k, .int .i64 b.s, .int .i64 b.c, .int .i64 b.w, .int .i64 b.h, .int .i64 b.m0, .int .i64 b.m1, .int .i64 b.m2, .int .i64 b.m3, .int .i64 b.e0, .int .i64 b.e1, .int .i64 b.e2, .int .i64 b.e3] ∧ d = b.data ∧ p = [] ∧ b.wf := by
  obtain ⟨cs, rfl, hsz⟩ := okWide_struct Try.underlying24 hv
  obtain ⟨fuel, hf⟩ := h
  obtain ⟨b, h1, h2, h3⟩ := box_of_trod hf
  obtain ⟨l⟩ := cs
  have h4 : l = [.int .i64 b.d, .int .i64 b.k, .int .i64 b.s, .int .i64 b.c, .int .i64 b.w, .int .i64 b.h, .int .i64 b.m0, .int .i64 b.m1, .int .i64 b.m2, .int .i64 b.m3, .int .i64 b.e0, .int .i64 b.e1, .int .i64 b.e2, .int .i64 b.e3] := h1
  subst h4
  simp only [Prod.mk.injEq] at h3
  exact ⟨b, rfl, h3.1, h3.2, h2⟩
theorem trodInt {n : Nat} {a : Int} (h : (Lit.int .i64 a).wf = true) : DataW.trod enc Try.prog w base spare held (n + 1) 3 [.int .i64 a] = some (.lit (.int .i64 a), []) := by
  simp [DataW.trod, Try.underlying3, h]
theorem trodFour {n : Nat} {a b c d : Int} (ha : (Lit.int .i64 a).wf = true) (hb : (Lit.int .i64 b).wf = true) (hc : (Lit.int .i64 c).wf = true) (hd : (Lit.int .i64 d).wf = true) :
    DataW.trod enc Try.prog w base spare held (n + 2) 22 [.int .i64 a, .int .i64 b, .int .i64 c, .int .i64 d] = some (.agg [.lit (.int .i64 a), .lit (.int .i64 b), .lit (.int .i64 c), .lit (.int .i64 d)], []) := by
  unfold DataW.trod
  simp [Try.underlying22, cellsFour, cellsInt, show List.range 4 = [0, 1, 2, 3] from rfl, trodInt ha, trodInt hb, trodInt hc, trodInt hd]
set_option maxRecDepth 20000 in
theorem trodBx {n : Nat} {b : Bx} (hb : b.wf) : DataW.trod enc Try.prog w base spare held (n + 3) 24 [.int .i64 b.d, .int .i64 b.k, .int .i64 b.s, .int .i64 b.c, .int .i64 b.w, .int .i64 b.h, .int .i64 b.m0, .int .i64 b.m1, .int .i64 b.m2, .int .i64 b.m3, .int .i64 b.e0, .int .i64 b.e1, .int .i64 b.e2, .int .i64 b.e3] = some (b.data, []) := by
  obtain ⟨⟨h1, h2, h3, h4, h5, h6⟩, ⟨p1, p2, p3, p4⟩, ⟨q1, q2, q3, q4⟩⟩ := hb
  unfold DataW.trod
  simp [Try.underlying24, cellsBox, cellsFour, cellsInt, trodInt h1, trodInt h2, trodInt h3, trodInt h4, trodInt h5, trodInt h6, trodFour p1 p2 p3 p4, trodFour q1 q2 q3 q4, Bx.data]
theorem shut_bx {b : Bx} (hb : b.wf) : DataW.Trod enc Try.prog w base spare held 24 (.agg #[.int .i64 b.d, .int .i64 b.k, .int .i64 b.s, .int .i64 b.c, .int .i64 b.w, .int .i64 b.h, .int .i64 b.m0, .int .i64 b.m1, .int .i64 b.m2, .int .i64 b.m3, .int .i64 b.e0, .int .i64 b.e1, .int .i64 b.e2, .int .i64 b.e3]) b.data [] := ⟨3, trodBx hb⟩
end
/-- The row's last step, of a call that has laid new blocks alone. -/
theorem post_lies {H : Type} {enc : TypeId × Value → H} {P : Program} {f : Func} {s : ChangeSpec} {apart fresh handsOn again : Bool} {W W' : World} {args : Array Value} {v : Value} {ds gs : List (DataW H)} {before pa pv : List MemPlace}
    (hW : DataW.Whole enc P f.params.toList s.vars apart W args.toList ds gs before) (hb : Below W.heap.size W W') (hps : before = pa ++ pv)
    (hres : ∀ (b : Nat) (sp : Nat → Bool) (hd : Bool), DataW.TrodAll enc P W' b sp hd f.resultTypes.toList (v.resultList f.resultTypes.size) (s.fn H (ds ++ gs)).results [])
    (hargs : ∀ sp : Nat → Bool, (∀ p ∈ before, sp p.block = true) → DataW.TrodAll enc P W' 0 sp true f.params.toList args.toList (s.fn H (ds ++ gs)).args pa)
    (hvars : ∀ sp : Nat → Bool, (∀ p ∈ before, sp p.block = true) → DataW.TrodVars enc P W' sp s.vars (s.fn H (ds ++ gs)).vars pv)
    (hok : ∀ (j : Nat) (t : TypeId) (r : Value), f.resultTypes[j]? = some t → (v.resultList f.resultTypes.size)[j]? = some r → Value.okWide P W' .any 0 t r) :
    s.post enc P f apart fresh handsOn again W args v W' := by
  have lt : ∀ p ∈ before, p.block < W.heap.size := fun p hp => hW.lt p hp
  have old : ∀ p ∈ before, (fun b => decide (b < W.heap.size)) p.block = true := fun p hp => decide_eq_true (lt p hp)
  have all : ∀ p ∈ before, (fun _ : Nat => true) p.block = true := fun _ _ => rfl
  have keep := hb.frame (· ∈ before)
  refine ⟨ds, gs, before, [], pa, pv, hW, hres _ _ _, hargs _ old, hvars _ old, World.keptBut_mono (fun p hp => ⟨hp, .inr (by rw [hps, List.mem_append] at hp; exact hp)⟩) keep, fun _ => ?_⟩
  obtain ⟨_, _, _, _, _, free, once⟩ := hW
  refine ⟨hok, _, _, ([] ++ pa) ++ pv, ⟨[] ++ pa, pv, trodAll_append (hargs _ all) (hres _ _ _), hvars _ all, rfl, ?_, ?_⟩, ?_⟩
  · intro b off hp
    have hin : MemPlace.cell b off ∈ before := by rw [hps]; simpa using hp
    rw [hb.frozen (lt _ hin)]
    exact free b off hin
  · intro ha
    have h := once ha
    rw [hps] at h
    simpa using h
  · intro p hp _
    rw [hps]
    simpa using hp
end Go.Proofs.Ytpjngnkcjccbcaa
