/- How floats that came in are opened: one, and a slice of them. -/
import Derived.Test.YtecojcdmigmnhaaRows
import Derived.Test.YtecojcdmigmnhaaFx
import Derived.WalkKit
import Derived.ProofKit
import Derived.OpenShut
import Derived.Carry
import Derived.Deep.Slices
namespace Go.Proofs.Ytecojcdmigmnhaa
set_option linter.unusedSimpArgs false
set_option linter.unusedVariables false
open Go.ChangeShapes Go.WideShapes Go.ChangeAt Go.RowKit Go.Deep
section
variable {H : Type} {enc : TypeId × Value → H} {w : World} {base : Nat} {spare : Nat → Bool} {held : Bool}
theorem cellsFour : Try.prog.cellsOf 47 = 4 := by kernel_rfl
theorem cellsFlo : Try.prog.cellsOf 49 = 5 := by kernel_rfl
theorem cellsInt : Try.prog.cellsOf 3 = 1 := by kernel_rfl
theorem int_at {fuel : Nat} {cs : List Value} {k : Nat} {y : Option (DataW H × List MemPlace)} (h : DataW.trod enc Try.prog w base spare held fuel 3 ((cs.drop k).take 1) = y) (hy : ∃ z, y = some z) (_hk : k < cs.length) :
    ∃ n : Int, cs[k]? = some (.int .i64 n) ∧ (Lit.int .i64 n).wf = true ∧ y = some (.lit (.int .i64 n), []) := by
  obtain ⟨z, rfl⟩ := hy
  obtain ⟨n, h1, h2, h3⟩ := DataW.trod_int Try.underlying3 h
  refine ⟨n, ?_, h3, by rw [h2]⟩
  have h4 := congrArg (fun l => l[0]?) h1
  simpa using h4
theorem four_at {fuel : Nat} {cs : List Value} {k : Nat} {y : Option (DataW H × List MemPlace)} (h : DataW.trod enc Try.prog w base spare held fuel 47 ((cs.drop k).take 4) = y) (hy : ∃ z, y = some z) (hk : k + 4 ≤ cs.length) :
    ∃ a b c d : Int, cs[k]? = some (.int .i64 a) ∧ cs[k+1]? = some (.int .i64 b) ∧ cs[k+2]? = some (.int .i64 c) ∧ cs[k+3]? = some (.int .i64 d) ∧
      (Lit.int .i64 a).wf = true ∧ (Lit.int .i64 b).wf = true ∧ (Lit.int .i64 c).wf = true ∧ (Lit.int .i64 d).wf = true ∧ y = some (.agg [.lit (.int .i64 a), .lit (.int .i64 b), .lit (.int .i64 c), .lit (.int .i64 d)], []) := by
  obtain ⟨z, rfl⟩ := hy
  obtain ⟨xs, m, _, rfl, _, hl, hx⟩ := DataW.trod_array Try.underlying47 h
  have e : ∀ i, i < 4 → ∃ n : Int, cs[k+i]? = some (.int .i64 n) ∧ (Lit.int .i64 n).wf = true ∧ xs[i]? = some (.lit (.int .i64 n), []) := by
    intro i hi
    have h1 := hx i hi
    rw [cellsInt] at h1
    obtain ⟨n, h2, h3, h4⟩ := int_at (cs := (cs.drop k).take 4) h1 ⟨xs[i]'(by omega), List.getElem?_eq_getElem (by omega)⟩ (by simp; omega)
    refine ⟨n, ?_, h3, h4⟩
    rw [← h2]
    simp [hi]
  obtain ⟨a, a1, a2, a3⟩ := e 0 (by omega)
  obtain ⟨b, b1, b2, b3⟩ := e 1 (by omega)
  obtain ⟨c, c1, c2, c3⟩ := e 2 (by omega)
  obtain ⟨d, d1, d2, d3⟩ := e 3 (by omega)
  refine ⟨a, b, c, d, a1, b1, c1, d1, a2, b2, c2, d2, ?_⟩
  match xs, hl with
  | [x0, x1, x2, x3], _ =>
    simp at a3 b3 c3 d3
    simp [a3, b3, c3, d3]
def Fo.wf (f : Fo) : Prop := (Lit.int .i64 f.s).wf = true ∧ ((Lit.int .i64 f.x0).wf = true ∧ (Lit.int .i64 f.y0).wf = true ∧ (Lit.int .i64 f.x1).wf = true ∧ (Lit.int .i64 f.y1).wf = true)
def Fo.data {H : Type} (f : Fo) : DataW H := .agg [.lit (.int .i64 f.s), .agg [.lit (.int .i64 f.x0), .lit (.int .i64 f.y0), .lit (.int .i64 f.x1), .lit (.int .i64 f.y1)]]
set_option maxRecDepth 20000 in
theorem fo_of_trod {fuel : Nat} {cs : List Value} {x : DataW H × List MemPlace} (h : DataW.trod enc Try.prog w base spare held fuel 49 cs = some x) :
    ∃ f : Fo, cs = foC f ∧ f.wf ∧ x = (f.data, []) := by
  obtain ⟨xs, n, _, rfl, hl, hxl, hf⟩ := DataW.trod_struct Try.underlying49 h
  rw [cellsFlo] at hl
  have hxl' : xs.length = 2 := hxl
  have ex : ∀ i, i < 2 → ∃ z, xs[i]? = some z := fun i hi => ⟨xs[i]'(by omega), List.getElem?_eq_getElem (by omega)⟩
  have f0 : DataW.trod enc Try.prog w base spare held n 3 ((cs.drop 0).take 1) = xs[0]? := (congrArg (fun k => DataW.trod enc Try.prog w base spare held n 3 ((cs.drop 0).take k)) cellsInt).symm.trans (hf 0 _ rfl)
  have f1 : DataW.trod enc Try.prog w base spare held n 47 ((cs.drop 1).take 4) = xs[1]? := (congrArg (fun k => DataW.trod enc Try.prog w base spare held n 47 ((cs.drop 1).take k)) cellsFour).symm.trans (hf 1 _ rfl)
  obtain ⟨s, s1, s2, s3⟩ := int_at f0 (ex 0 (by omega)) (by omega)
  obtain ⟨m0, m1, m2, m3, p0, p1, p2, p3, q0, q1, q2, q3, pm⟩ := four_at f1 (ex 1 (by omega)) (by omega)
  clear f0 f1 hf h ex
  refine ⟨⟨s, m0, m1, m2, m3⟩, ?_, ⟨s2, q0, q1, q2, q3⟩, ?_⟩
  · match cs, hl with
    | [v0, v1, v2, v3, v4], _ =>
      simp at s1 p0 p1 p2 p3
      simp [foC, s1, p0, p1, p2, p3]
  · match xs, hxl' with
    | [x0, x1], _ =>
      simp at s3 pm
      simp [Fo.data, s3, pm]
set_option maxRecDepth 20000 in
theorem open_flo {r : Reach} {b0 : Nat} {v : Value} {d : DataW H} {p : List MemPlace} (hv : Value.okWide Try.prog w r b0 49 v) (h : DataW.Trod enc Try.prog w base spare held 49 v d p) :
    ∃ f : Fo, v = .agg #[.int .i64 f.s, .int .i64 f.x0, .int .i64 f.y0, .int .i64 f.x1, .int .i64 f.y1] ∧ d = f.data ∧ p = [] ∧ f.wf := by
  obtain ⟨cs, rfl, hsz⟩ := okWide_struct Try.underlying49 hv
  obtain ⟨fuel, hf⟩ := h
  obtain ⟨b, h1, h2, h3⟩ := fo_of_trod hf
  obtain ⟨l⟩ := cs
  have h4 : l = foC b := h1
  subst h4
  simp only [Prod.mk.injEq] at h3
  exact ⟨b, rfl, h3.1, h3.2, h2⟩
theorem trodInt {n : Nat} {a : Int} (h : (Lit.int .i64 a).wf = true) : DataW.trod enc Try.prog w base spare held (n + 1) 3 [.int .i64 a] = some (.lit (.int .i64 a), []) := by
  simp [DataW.trod, Try.underlying3, h]
theorem trodFour {n : Nat} {a b c d : Int} (ha : (Lit.int .i64 a).wf = true) (hb : (Lit.int .i64 b).wf = true) (hc : (Lit.int .i64 c).wf = true) (hd : (Lit.int .i64 d).wf = true) :
    DataW.trod enc Try.prog w base spare held (n + 2) 47 [.int .i64 a, .int .i64 b, .int .i64 c, .int .i64 d] = some (.agg [.lit (.int .i64 a), .lit (.int .i64 b), .lit (.int .i64 c), .lit (.int .i64 d)], []) := by
  unfold DataW.trod
  simp [Try.underlying47, cellsFour, cellsInt, show List.range 4 = [0, 1, 2, 3] from rfl, trodInt ha, trodInt hb, trodInt hc, trodInt hd]
set_option maxRecDepth 20000 in
theorem trodFo {n : Nat} {f : Fo} (hb : f.wf) : DataW.trod enc Try.prog w base spare held (n + 3) 49 (foC f) = some (f.data, []) := by
  obtain ⟨h1, p1, p2, p3, p4⟩ := hb
  unfold DataW.trod
  simp [foC, Try.underlying49, cellsFlo, cellsFour, cellsInt, trodInt h1, trodFour p1 p2 p3 p4, Fo.data]
theorem shut_flo {f : Fo} (hb : f.wf) : DataW.Trod enc Try.prog w base spare held 49 (.agg #[.int .i64 f.s, .int .i64 f.x0, .int .i64 f.y0, .int .i64 f.x1, .int .i64 f.y1]) f.data [] := ⟨3, trodFo hb⟩
theorem cell_lt {a : Addr} {v : Value} (h : w.cell? a = some v) : a.block < w.heap.size := by
  unfold World.cell? at h
  split at h
  · rename_i heq
    exact (Array.getElem?_eq_some_iff.1 heq).1
  · cases h
theorem spot_none {a : Addr} {v : Value} (h : w.cell? a = some v) : a.spot = none := by
  unfold World.cell? at h
  split at h
  · cases hs : a.spot with
    | none => rfl
    | some s => simp [hs] at h
  · cases h
instance : Inhabited Fo := ⟨fo0⟩
set_option maxRecDepth 20000 in
theorem open_fos {r : Reach} {b0 : Nat} {v : Value} {d : DataW H} {p : List MemPlace} (hv : Value.okWide Try.prog w r b0 31 v) (h : DataW.Trod enc Try.prog w base spare held 31 v d p) :
    ∃ L : List Fo, IsFos w v L ∧ L.length ≤ maxLen := by
  obtain ⟨a0, l0, c0, rfl⟩ := okWide_slice Try.underlying31 hv
  obtain ⟨fuel, hf⟩ := h
  rcases open_slice Try.underlying31 hf with ⟨h1, _⟩ | ⟨a, len, cap, m, n, D, Pl, h1, hb, hl, hm, hmm, hx, hi⟩
  · have h2 : Value.slice a0 l0 c0 = .slice none 0 0 := by simpa [Value.cells] using h1
    rw [h2]
    exact ⟨[], ⟨none, 0, rfl, Nat.le_refl _, fun h => absurd h (by decide)⟩, by decide⟩
  · have h2 : Value.slice a0 l0 c0 = .slice (some a) len cap := by simpa [Value.cells] using h1
    rw [h2]
    have hml : len ≤ m := by rw [hmm]; split <;> omega
    have ex : ∀ i, i < len → ∃ b : Fo, ∀ j, j < 5 → w.cell? ((a.add (i * 5)).add j) = (foC b)[j]? := by
      intro i hil
      obtain ⟨cs, q1, q2⟩ := hi i (by omega)
      obtain ⟨b, e1, _, _⟩ := fo_of_trod q2
      rw [cellsFlo] at q1
      obtain ⟨_, q4, q5⟩ := World.cells?_some q1
      refine ⟨b, fun j hj => ?_⟩
      rw [q5 j hj, e1]
    obtain ⟨f, hfb⟩ := choose_lt ex
    have hmax : len ≤ maxLen := by omega
    refine ⟨(List.range len).map f, ⟨some a, cap, by simp, by simpa using hl, fun hp => ?_⟩, by simpa using hmax⟩
    have hlen : 0 < len := by simpa using hp
    have h0 := hfb 0 hlen 0 (by omega)
    have hsp : a.spot = none := by
      have : w.cell? ((a.add (0 * 5)).add 0) = some (.int .i64 (f 0).s) := h0
      have := spot_none this
      simpa [Addr.add] using this
    have hblk : a.block < w.heap.size := by
      have : w.cell? ((a.add (0 * 5)).add 0) = some (.int .i64 (f 0).s) := h0
      have h' := cell_lt this
      simpa [Addr.add, hsp] using h'
    obtain ⟨g, o, s⟩ := a
    simp only at hsp
    subst hsp
    refine ⟨g, o, rfl, hblk, fun k hk j u hu => ?_⟩
    have hk' : k < len := by simpa using hk
    have hj : j < 5 := (List.getElem?_eq_some_iff.1 hu).1
    have h3 := hfb k hk' j hj
    rw [Addr.add_mid, Addr.add_mid] at h3
    rw [h3]
    have : foAt ((List.range len).map f) k = f k := by
      unfold foAt
      simp [List.getD_eq_getElem?_getD, hk']
    rw [this] at hu
    exact hu
/-- What came in reads as it did. -/
theorem carry_fos {W W' : World} {v : Value} {d : DataW H} {p : List MemPlace} {sp : Nat → Bool} (h : DataW.Trod enc Try.prog W 0 (fun _ => true) true 31 v d p) (hb : Below W.heap.size W W') (hlt : ∀ x ∈ p, x.block < W.heap.size) (hs : ∀ x ∈ p, sp x.block = true) :
    DataW.Trod enc Try.prog W' 0 sp true 31 v d p :=
  WideElems.Trod_stays (by kernel_rfl) (by kernel_rfl) (by decide +kernel) h (fun x hx => hb.same (hlt x hx)) hs
end
/-- The row's last step, of a call that has laid new blocks alone. -/
theorem post_lies {H : Type} {enc : TypeId × Value → H} {P : Program} {f : Func} {s : ChangeSpec} {apart fresh handsOn again : Bool} {W W' : World} {args : Array Value} {v : Value} {ds gs : List (DataW H)} {before pa pv : List MemPlace}
    (hW : DataW.Whole enc P f.params.toList s.vars apart W args.toList ds gs before) (hb : Below W.heap.size W W') (hps : before = pa ++ pv)
    (hres : ∀ (b : Nat) (sp : Nat → Bool) (hd : Bool), DataW.TrodAll enc P W' b sp hd f.resultTypes.toList (v.resultList f.resultTypes.size) (s.fn H (ds ++ gs)).results [])
    (hargs : ∀ sp : Nat → Bool, (∀ p ∈ before, sp p.block = true) → DataW.TrodAll enc P W' 0 sp true f.params.toList args.toList (s.fn H (ds ++ gs)).args pa)
    (hvars : ∀ sp : Nat → Bool, (∀ p ∈ before, sp p.block = true) → DataW.TrodVars enc P W' sp s.vars (s.fn H (ds ++ gs)).vars pv)
    (hok : ∀ (j : Nat) (t : TypeId) (r : Value), f.resultTypes[j]? = some t → (v.resultList f.resultTypes.size)[j]? = some r → Value.okWide P W' .any 0 t r) :
    s.post enc P f apart fresh handsOn again W args v W' := by
  have lt : ∀ p ∈ before, p.block < W.heap.size := fun p hp => hW.lt p hp
  have old : ∀ p ∈ before, (fun b => decide (b < W.heap.size)) p.block = true := fun p hp => decide_eq_true (lt p hp)
  have all : ∀ p ∈ before, (fun _ : Nat => true) p.block = true := fun _ _ => rfl
  have keep := hb.frame (· ∈ before)
  refine ⟨ds, gs, before, [], pa, pv, hW, hres _ _ _, hargs _ old, hvars _ old, World.keptBut_mono (fun p hp => ⟨hp, .inr (by rw [hps, List.mem_append] at hp; exact hp)⟩) keep, fun _ => ?_⟩
  obtain ⟨_, _, _, _, _, free, once⟩ := hW
  refine ⟨hok, _, _, ([] ++ pa) ++ pv, ⟨[] ++ pa, pv, trodAll_append (hargs _ all) (hres _ _ _), hvars _ all, rfl, ?_, ?_⟩, ?_⟩
  · intro b off hp
    have hin : MemPlace.cell b off ∈ before := by rw [hps]; simpa using hp
    rw [hb.frozen (lt _ hin)]
    exact free b off hin
  · intro ha
    have h := once ha
    rw [hps] at h
    simpa using h
  · intro p hp _
    rw [hps]
    simpa using hp
end Go.Proofs.Ytecojcdmigmnhaa
