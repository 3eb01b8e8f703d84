/- A store of a whole rectangle over an abstract frame; what stands in a region of two placings. -/
import Derived.Test.YtnkbbobdhcloeaaRv2
import Derived.Test.YtnkbbobdhcloeaaAv6
namespace Go.Proofs.Ytnkbbobdhcloeaa
set_option linter.unusedSimpArgs false
set_option linter.unusedVariables false
open Go.RowKit
/-- Block b is the row of four numbers. -/
def Is4 (b : Nat) (v : Int × Int × Int × Int) (w : World) : Prop := w.heap[b]? = some (.cells #[.int .i64 v.1, .int .i64 v.2.1, .int .i64 v.2.2.1, .int .i64 v.2.2.2] 30 (0, 0))
def agg4 (v : Int × Int × Int × Int) : Value := .agg #[.int .i64 v.1, .int .i64 v.2.1, .int .i64 v.2.2.1, .int .i64 v.2.2.2]
theorem wp_store4 {Q : Exit → Act → World → Prop} {K : Act → World → Prop} {a : Act} {w W3 : World} {o : Oper} {x y : Operand} {b n : Nat} {v : Int × Int × Int × Int} (ho : o.op = .store 30 x y) (hx : a.eval x = .pointer (some ⟨b, 0, none⟩)) (hy : a.eval y = agg4 v)
    (hr : Row4 b w) (hb : Below n W3 w) (hn : n ≤ b) (h : ∀ w', Is4 b v w' → Below n W3 w' → (∀ k, k ≠ b → w'.heap[k]? = w.heap[k]?) → w'.heap.size = w.heap.size → K (a.put o.dst undef) w') : Oper.wp Try.prog o a w K Q := by
  obtain ⟨a0, a1, a2, a3, hc⟩ := Row4.cells hr
  refine wp_store_mid 30 x y ho b 0 #[.int .i64 v.1, .int .i64 v.2.1, .int .i64 v.2.2.1, .int .i64 v.2.2.2] hx hy ?_ rectInfo (by simp [Value.oneCell']) ?_
  · intro j hj
    have hj : j < 4 := hj
    rw [Nat.zero_add]
    refine ⟨?_, frozen_of_row w b j _ _ hc⟩
    rw [cell_of_row w b j _ _ (0, 0) hc]
    match j, hj with
    | 0, _ => rfl
    | 1, _ => rfl
    | 2, _ => rfl
    | 3, _ => rfl
  · have hs := st4 (K := True) hn ⟨hb, hr, trivial⟩ (.int .i64 v.1) (.int .i64 v.2.1) (.int .i64 v.2.2.1) (.int .i64 v.2.2.2)
    refine h _ ?_ hs.1 ?_ ?_
    · exact heap_setCell_same _ _ 3 _ _ _ (heap_setCell_same _ _ 2 _ _ _ (heap_setCell_same _ _ 1 _ _ _ (heap_setCell_same w b 0 _ _ _ hc)))
    · intro k hk
      exact (heap_setCell_other _ _ k _ hk).trans ((heap_setCell_other _ _ k _ hk).trans ((heap_setCell_other _ _ k _ hk).trans (heap_setCell_other _ _ k _ hk)))
    · show ((((w.setCell _ _).setCell _ _).setCell _ _).setCell _ _).heap.size = _
      simp [World.setCell]
end Go.Proofs.Ytnkbbobdhcloeaa
