/- Two boxes are placed in one statement, the slots in a row: what is asked where it is used, and the frame behind. -/
import Derived.Test.YtnkbbobdhcloeaaRv6
import Derived.Test.YtnkbbobdhcloeaaAh
namespace Go.Proofs.Ytnkbbobdhcloeaa
set_option linter.unusedSimpArgs false
set_option linter.unusedVariables false
open Go.RowKit
/-- The slots: eight from x on, two from y on. -/
def dsl (x y : Nat) (i : Nat) : Nat := if i < 8 then x + i else y + (i - 8)
theorem dsl_ne {x y : Nat} (h : y + 1 < x) : ∀ i j, i < 10 → j < 10 → i ≠ j → dsl x y i ≠ dsl x y j := by
  intro i j hi hj hij
  unfold dsl
  split <;> split <;> omega
theorem dsl_lt {x y n : Nat} (h : y + 1 < x) (hn : x + 7 < n) : ∀ i, i < 10 → dsl x y i < n := by
  intro i hi
  unfold dsl
  split <;> omega
theorem dsl_off {x y s : Nat} (h1 : s < x ∨ x + 7 < s) (h2 : s ≠ y ∧ s ≠ y + 1) : s ∉ (List.range 10).map (dsl x y) := by
  intro hk
  obtain ⟨i, hi, e⟩ := List.mem_map.1 hk
  have hi := List.mem_range.1 hi
  unfold dsl at e
  split at e <;> omega
structure Ops12 (ops : Array Oper) (x y s sy p1 p2 : Nat) (nO nF : FuncId) (tw ts tf : TypeId) : Prop where
  h0 : OpIs ops 0 (.move (.tmp s)) (some x)
  h1 : OpIs ops 1 (.load tw (.tmp p1)) (some (x + 1))
  h2 : OpIs ops 2 (.call { callee := .value (.func nO), args := #[.tmp (x + 1)], argTypes := #[tw] }) (some (x + 2))
  h3 : OpIs ops 3 (.call { callee := .value (.func nF), args := #[.tmp x, .tmp (x + 2)], argTypes := #[ts, tf] }) (some (x + 3))
  h4 : OpIs ops 4 (.move (.tmp sy)) (some (x + 4))
  h5 : OpIs ops 5 (.load tw (.tmp p2)) (some (x + 5))
  h6 : OpIs ops 6 (.call { callee := .value (.func nO), args := #[.tmp (x + 5)], argTypes := #[tw] }) (some (x + 6))
  h7 : OpIs ops 7 (.call { callee := .value (.func nF), args := #[.tmp (x + 4), .tmp (x + 6)], argTypes := #[ts, tf] }) (some (x + 7))
  h8 : OpIs ops 8 (.alloc 30) (some y)
  h9 : OpIs ops 9 (.alloc 30) (some (y + 1))
  h10 : OpIs ops 10 (.store 30 (.tmp y) (.tmp (x + 3))) none
  h11 : OpIs ops 11 (.store 30 (.tmp (y + 1)) (.tmp (x + 7))) none
def waits12 (ops : Array Oper) : Bool := waitsB ops 2 1 && waitsB ops 3 0 && waitsB ops 3 2 && waitsB ops 6 5 && waitsB ops 7 4 && waitsB ops 7 6 && waitsB ops 10 8 && waitsB ops 10 3 && waitsB ops 11 9 && waitsB ops 11 7
theorem blk_range {w : World} {b : Nat} {cs : List Value} {t : TypeId} (h : w.heap[b]? = some (.cells cs.toArray t (0, 0))) : w.rangeAt b 0 cs := fun j v hv => by
  rw [Nat.zero_add, cell_of_row w b j _ _ (0, 0) h]
  simpa using hv
def depsB (ops : Array Oper) : Bool := (List.range ops.size).all fun i => match ops[i]? with | some o => o.after.all (fun e => !(Region.binds .any e) || decide (e.on < i)) | none => true
theorem deps_at {ops : Array Oper} (h : depsB ops = true) : ∀ (i : Nat) (o : Oper), ops[i]? = some o → ∀ e ∈ o.after, Region.binds .any e = true → e.on < i := by
  intro i o ho e he hb
  have hi : i < ops.size := (Array.getElem?_eq_some_iff.1 ho).1
  have h1 := List.all_eq_true.1 h i (List.mem_range.2 hi)
  rw [ho] at h1
  simp only [Array.all_eq_true', Bool.or_eq_true, Bool.not_eq_true', decide_eq_true_eq] at h1
  rcases h1 e he with h2 | h2
  · rw [hb] at h2; exact absurd h2 (by decide)
  · exact h2
set_option maxHeartbeats 2000000 in
theorem two_at {ops : Array Oper} {Q : Exit → Act → World → Prop} {id : Nat} {T : Array Value} {w0 : World} (x y s sy p1 p2 bp1 bp2 : Nat) (sv sx k1 k2 : Value) (nO nF : FuncId) (cs1 cs2 : List Value) (r1 r2 : Int × Int × Int × Int) (tw ts tf t1 t2 : TypeId) (dw : TypeDesc)
    (hm : (Try.prog).follows .mixedOrders = true) (hz : ops.size = 12) (hdep : depsB ops = true) (ho : Ops12 ops x y s sy p1 p2 nO nF tw ts tf) (hw : waits12 ops = true)
    (cfO : ∀ x w, (callFunc nO #[x]).run Try.prog w = .ok (.enter nO #[x]) w) (cfF : ∀ x y w, (callFunc nF #[x, y]).run Try.prog w = .ok (.enter nF #[x, y]) w)
    (hy : y + 1 < x) (hxT : x + 7 < T.size) (hs : (s < x ∨ x + 7 < s) ∧ s ≠ y ∧ s ≠ y + 1) (hsy : (sy < x ∨ x + 7 < sy) ∧ sy ≠ y ∧ sy ≠ y + 1) (hp1 : (p1 < x ∨ x + 7 < p1) ∧ p1 ≠ y ∧ p1 ≠ y + 1) (hp2 : (p2 < x ∨ x + 7 < p2) ∧ p2 ≠ y ∧ p2 ≠ y + 1)
    (ts0 : T[s]? = some sv) (ts1 : T[sy]? = some sx) (tp1 : T[p1]? = some (.pointer (some ⟨bp1, 0, none⟩))) (tp2 : T[p2]? = some (.pointer (some ⟨bp2, 0, none⟩))) (tA : T[y]? = some undef) (tB : T[y + 1]? = some undef)
    (hu : (Try.prog).underlying tw = some dw) (hr : dw.isRow = true) (hi1 : ((Try.prog).info? tw).map (·.size) = some cs1.length) (hi2 : ((Try.prog).info? tw).map (·.size) = some cs2.length)
    (g1 : w0.heap[bp1]? = some (.cells cs1.toArray t1 (0, 0))) (g2 : w0.heap[bp2]? = some (.cells cs2.toArray t2 (0, 0)))
    (c1 : ∀ w, Calls Try.prog nO #[.agg cs1.toArray] w fun e w' => e = .returned k1 ∧ Below w.heap.size w w') (c2 : ∀ w, Calls Try.prog nO #[.agg cs2.toArray] w fun e w' => e = .returned k2 ∧ Below w.heap.size w w')
    (f1 : ∀ w, Below w0.heap.size w0 w → Calls Try.prog nF #[sv, k1] w fun e w' => e = .returned (agg4 r1) ∧ Below w.heap.size w w') (f2 : ∀ w, Below w0.heap.size w0 w → Calls Try.prog nF #[sx, k2] w fun e w' => e = .returned (agg4 r2) ∧ Below w.heap.size w w')
    (hend : ∀ bA bB w, Is4 bA r1 w → Is4 bB r2 w → bA ≠ bB → w0.heap.size ≤ bA → w0.heap.size ≤ bB → Below w0.heap.size w0 w →
      Q .normal ⟨(((((((((((T.setIfInBounds x sv).setIfInBounds (x + 1) (.agg cs1.toArray)).setIfInBounds (x + 2) k1).setIfInBounds (x + 3) (agg4 r1)).setIfInBounds (x + 4) sx).setIfInBounds (x + 5) (.agg cs2.toArray)).setIfInBounds (x + 6) k2).setIfInBounds (x + 7) (agg4 r2)).setIfInBounds y (.pointer (some ⟨bA, 0, none⟩))).setIfInBounds (y + 1) (.pointer (some ⟨bB, 0, none⟩)))), []⟩ w) :
    (Code.region id ops true).wp Try.prog Q ⟨T, []⟩ w0 := by
  unfold waits12 at hw
  simp only [Bool.and_eq_true] at hw
  obtain ⟨⟨⟨⟨⟨⟨⟨⟨⟨w21, w30⟩, w32⟩, w65⟩, w74⟩, w76⟩, w108⟩, w103⟩, w119⟩, w117⟩ := hw
  refine two_finds (dsl x y) s sy p1 p2 bp1 bp2 sv sx k1 k2 nO nF cs1 cs2 r1 r2 tw ts tf dw hm hz (deps_at hdep) ho.h0 ho.h1 ho.h2 ho.h3 ho.h4 ho.h5 ho.h6 ho.h7 ho.h8 ho.h9 ho.h10 ho.h11 cfO cfF w21 w30 w32 w65 w74 w76 w108 w103 w119 w117
    (dsl_ne hy) (dsl_lt hy hxT) (dsl_off hs.1 hs.2) (dsl_off hsy.1 hsy.2) (dsl_off hp1.1 hp1.2) (dsl_off hp2.1 hp2.2) ts0 ts1 tp1 tp2 ?_ ?_ hu hr hi1 hi2 (fun w hb => blk_range (blk_keep g1 hb)) (fun w hb => blk_range (blk_keep g2 hb)) c1 c2 f1 f2 ?_
  · intro b hb
    have hb : T[y]? = some (.pointer (some ⟨b, 0, none⟩)) := hb
    rw [tA] at hb
    cases hb
  · intro b hb
    have hb : T[y + 1]? = some (.pointer (some ⟨b, 0, none⟩)) := hb
    rw [tB] at hb
    cases hb
  · intro a w hB hR
    obtain ⟨bA, bB, rfl, hA, hB2, hne, hnA, hnB, hb⟩ := frame2 (dsl_lt hy hxT) hB hR
    exact hend bA bB w hA hB2 hne hnA hnB hb
end Go.Proofs.Ytnkbbobdhcloeaa
