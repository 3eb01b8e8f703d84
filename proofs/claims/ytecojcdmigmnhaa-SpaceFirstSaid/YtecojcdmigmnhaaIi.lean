/- Slices of whole numbers: of the call's own, and as they are read. -/
import Derived.Test.YtecojcdmigmnhaaSpn
import Derived.Lib.Hide
import Derived.Maps.AppendAt
import Derived.Deep.AppendLies
namespace Go.Proofs.Ytecojcdmigmnhaa
set_option linter.unusedSimpArgs false
set_option linter.unusedVariables false
open Go.RowKit
theorem intInfo' : (Try.prog.info? 3).map (fun i => (i.zero, i.size, i.bytes)) = some (some (.int .i64 0), 1, 8) := by kernel_rfl
/-- A slice of the call's own holds these numbers. -/
def Ints (w : World) (base : Nat) (v : Value) (l : List Int) : Prop := w.ownsRow base 3 1 v l.length (l.map (Value.int .i64))
/-- A slice reads as these numbers. -/
def IsInts (w : World) (v : Value) (l : List Int) : Prop := ∃ (A : Option Addr) (cap : Nat), v = .slice A l.length cap ∧ l.length ≤ cap ∧ (0 < l.length → ∃ g o, A = some ⟨g, o, none⟩ ∧ g < w.heap.size ∧ ∀ k, k < l.length → w.cell? ⟨g, o + k, none⟩ = some (.int .i64 (l.getD k 0)))
section
variable {w w' : World} {base : Nat} {v : Value} {l : List Int}
theorem Ints.nil (w : World) (base : Nat) : Ints w base (.slice none 0 0) [] := World.ownsRow_nil w base _ _
theorem Ints.empty (w : World) {base : Nat} (hb : base ≤ w.heap.size) : Ints (w.alloc (.cells #[] 3)) base (.slice (some ⟨w.heap.size, 0, none⟩) 0 0) [] := World.ownsRow_lit w #[] 0 hb (by decide) rfl
theorem Ints.kept {row : Option Nat} (h : Ints w base v l) (hg : w.grownBy w' row) (hne : v.ownBlock = none ∨ v.ownBlock ≠ row) : Ints w' base v l := World.ownsRow.kept h hg hne
theorem Ints.below (h : Ints w base v l) (hb : Below w.heap.size w w') : Ints w' base v l :=
  World.ownsRow.kept (row := none) h ⟨hb.os, hb.tape, hb.output, hb.size, fun k hk _ => hb.block k hk⟩ (by cases hv : v.ownBlock <;> simp)
theorem Ints.alloc (h : Ints w base v l) (o : Obj) : Ints (w.alloc o) base v l := World.ownsRow.alloc h o
theorem Ints.mono {base' : Nat} (h : Ints w base v l) (hb : base' ≤ base) : Ints w base' v l := by
  obtain ⟨h1, h2⟩ := h
  refine ⟨h1, ?_⟩
  rcases h2 with h2 | ⟨g, cap, cur, e, hg, r⟩
  · exact .inl h2
  · exact .inr ⟨g, cap, cur, e, by omega, r⟩
theorem Ints.lt (h : Ints w base v l) {k : Nat} (hk : v.ownBlock = some k) : base ≤ k ∧ k < w.heap.size := World.ownsRow.lt h k hk
theorem Ints.reads (h : Ints w base v l) : IsInts w v l := by
  obtain ⟨h1, h2⟩ := h
  rcases h2 with ⟨rfl, h0⟩ | ⟨g, cap, cur, rfl, hg, hh, hn, hm, hs, ht⟩
  · exact ⟨none, 0, by rw [h0], by omega, fun hp => by omega⟩
  · refine ⟨_, cap, rfl, hn, fun _ => ⟨g, 0, rfl, (Array.getElem?_eq_some_iff.1 hh).1, fun k hk => ?_⟩⟩
    rw [Nat.zero_add, cell_of_row w g k cur 3 (0, 0) hh]
    have h3 := congrArg (fun x => x[k]?) ht
    simp only [List.getElem?_take, List.getElem?_map, Array.getElem?_toList] at h3
    rw [if_pos (by omega)] at h3
    rw [h3, List.getElem?_eq_getElem hk]
    simp [hk]
theorem IsInts.below (h : IsInts w v l) {n : Nat} (hb : Below n w w') (hn : w.heap.size ≤ n) : IsInts w' v l := by
  obtain ⟨A, cap, rfl, hc, h⟩ := h
  refine ⟨A, cap, rfl, hc, fun hp => ?_⟩
  obtain ⟨g, o, rfl, hg, hcell⟩ := h hp
  exact ⟨g, o, rfl, by have := hb.size; omega, fun k hk => (hb.cell (p := ⟨g, o + k, none⟩) (by show g < n; omega)).trans (hcell k hk)⟩
end
theorem cell_new {w : World} {b i : Nat} {cs : Array Value} {t : TypeId} {v : Value} (hb : b = w.heap.size) (h : cs[i]? = some v) : (w.alloc (.cells cs t)).cell? ⟨b, i, none⟩ = some v := by
  subst hb
  rw [cell_of_row _ _ i cs t (0, 0) (heap_alloc_new w _), h]
/-- append of one number onto a slice of the call's own. -/
theorem app1 (w : World) {ops : Array Oper} {rest : List Oper} {o : Oper} {a : Act} {Q : Exit → Act → World → Prop} (hgd : o.guard = none) (s x : Operand)
    (ho : o.op = .call { callee := .builtin .append, args := #[s, x], argTypes := #[22, 22] })
    (base : Nat) (v : Value) (l : List Int) (hs : a.eval s = v) (hown : Ints w base v l) (g c : Nat) (hx : a.eval x = .slice (some ⟨g, 0, none⟩) 1 c) (n : Int) (hc : w.cell? ⟨g, 0, none⟩ = some (.int .i64 n))
    (hl : l.length ≤ 1000000000000) (hbase : base ≤ w.heap.size)
    (h : ∀ v' w', Ints w' base v' (l ++ [n]) → w.grownBy w' v.ownBlock → (v'.ownBlock = v.ownBlock ∨ v'.ownBlock = some w.heap.size) → wpList Try.prog ops Q rest (a.put o.dst v') w') :
    wpList Try.prog ops Q (o :: rest) a w := by
  obtain ⟨i0, hi, hz0, hz1, hz2⟩ := info_parts intInfo'
  refine wpList_append_own_at w hgd s x 22 ho base 3 i0 (.int .i64 0) 1 8 Try.underlying22 hi hz0 hz1 hz2 rfl (by decide) v l.length (l.map (Value.int .i64)) hs hown ⟨g, 0, none⟩ 1 c [.int .i64 n] hx rfl ?_ (by simp [Value.oneCell']) (by unfold maxLen; omega) (by omega) hbase ?_
  · intro j u hu
    match j, hu with
    | 0, hu => simp at hu; subst hu; simpa [Addr.add] using hc
    | j + 1, hu => simp at hu
  · intro v' w' h1 h2 h3 h4
    refine h v' w' ?_ h2 h4
    unfold Ints
    simpa using h1
end Go.Proofs.Ytecojcdmigmnhaa
