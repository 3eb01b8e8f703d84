/- Whole structs, by value, in and out of memory: laws for the walk. -/
import Derived.Test.YtecojcdmigmnhaaLg
import Derived.Deep.MidRow
import Derived.Deep.WholeRow
namespace Go.Proofs.Ytecojcdmigmnhaa
set_option linter.unusedSimpArgs false
set_option linter.unusedVariables false
open Go.RowKit
theorem own_below {w w' : World} {base size n : Nat} {e : TypeId} {v : Value} {xs : List Value} (h : w.ownsRow base e size v n xs) (hb : Below w.heap.size w w') : w'.ownsRow base e size v n xs :=
  World.ownsRow.kept (row := none) h ⟨hb.os, hb.tape, hb.output, hb.size, fun k hk _ => hb.block k hk⟩ (by cases hv : v.ownBlock <;> simp)
theorem frozen_al {w : World} {b o : Nat} {f : Bool} (hb : b < w.heap.size) (h : w.frozen? ⟨b, o, none⟩ = f) (ob : Obj) : (w.alloc ob).frozen? ⟨b, o, none⟩ = f :=
  (World.frozen?_of_block (w := w) (a := ⟨b, o, none⟩) (Below.heap_alloc w ob b hb)).trans h
theorem frozen_ad {w : World} {b o : Nat} {f : Bool} (hb : b < w.heap.size) (h : w.frozen? ⟨b, o, none⟩ = f) (ob : Obj) : (w.alloc ob).drew.frozen? ⟨b, o, none⟩ = f := frozen_al hb h ob
theorem far2_cell {w W w' : World} {row : Option Nat} {b o : Nat} (hb : Below w.heap.size w W) (hg : W.grownBy w' row) (hl : b < w.heap.size) (hne : row ≠ some b) : w'.cell? ⟨b, o, none⟩ = w.cell? ⟨b, o, none⟩ :=
  (World.cell?_of_block (a := ⟨b, o, none⟩) (hg.block b (Nat.lt_of_lt_of_le hl hb.size) (Ne.symm hne))).trans (hb.cell (p := ⟨b, o, none⟩) hl)
theorem far2_frozen {w W w' : World} {row : Option Nat} {b o : Nat} (hb : Below w.heap.size w W) (hg : W.grownBy w' row) (hl : b < w.heap.size) (hne : row ≠ some b) : w'.frozen? ⟨b, o, none⟩ = w.frozen? ⟨b, o, none⟩ :=
  (World.frozen?_of_block (a := ⟨b, o, none⟩) (hg.block b (Nat.lt_of_lt_of_le hl hb.size) (Ne.symm hne))).trans (hb.frozen (p := ⟨b, o, none⟩) hl)
theorem range_new (W : World) (cs : List Value) (t : TypeId) : (W.alloc (.cells cs.toArray t)).rangeAt W.heap.size 0 cs := fun j v hv => by
  rw [Nat.zero_add, cell_of_row _ _ j _ t (0, 0) (heap_alloc_new W _)]
  simpa using hv
section
variable {P : Program} {ops : Array Oper} {rest : List Oper} {a : Act} {w : World} {Q : Exit → Act → World → Prop}
/-- A whole struct is stored into the block that was made last. -/
theorem store_new {dst : Option Tmp} {ty0 : TypeId} {pos : String} {after : Array Edge} (ty : TypeId) (x y : Operand) (W : World) (c c' : Array Value) (t : TypeId)
    (hw : w = W.alloc (.cells c t)) (hx : a.eval x = .pointer (some ⟨W.heap.size, 0, none⟩)) (hy : a.eval y = .agg c')
    (hi : (P.info? ty).map (·.size) = some c'.size) (hs : c.size = c'.size) (h1 : c'.all (·.oneCell') = true)
    (h : wpList P ops Q rest (a.put dst undef) (W.alloc (.cells c' t))) : wpList P ops Q (⟨dst, .store ty x y, ty0, pos, after, none⟩ :: rest) a w := by
  refine wpList_plain rfl fun K hK => ?_
  subst hw
  unfold Oper.wp execOp
  simp only [hx, hy, Instr.storeAt, Instr.sureAddr, Sem.run_bind, Sem.run_pure, Result.andThen_ok]
  rw [run_storeVar_row _ _ t ty c c' (heap_alloc_last W _) hi hs h1, World.setRow_alloc_new]
  exact hK _ _ h
/-- A whole struct is stored into a block that is known whole. -/
theorem store_row {dst : Option Tmp} {ty0 : TypeId} {pos : String} {after : Array Edge} (ty : TypeId) (x y : Operand) (g : Nat) (c c' : Array Value) (t : TypeId)
    (hg : w.heap[g]? = some (.cells c t (0, 0))) (hx : a.eval x = .pointer (some ⟨g, 0, none⟩)) (hy : a.eval y = .agg c')
    (hi : (P.info? ty).map (·.size) = some c'.size) (hs : c.size = c'.size) (h1 : c'.all (·.oneCell') = true)
    (h : ∀ w2 : World, w2.heap[g]? = some (.cells c' t (0, 0)) → w.grownBy w2 (some g) → w2.heap.size = w.heap.size → wpList P ops Q rest (a.put dst undef) w2) : wpList P ops Q (⟨dst, .store ty x y, ty0, pos, after, none⟩ :: rest) a w := by
  refine wpList_plain rfl fun K hK => ?_
  unfold Oper.wp execOp
  simp only [hx, hy, Instr.storeAt, Instr.sureAddr, Sem.run_bind, Sem.run_pure, Result.andThen_ok]
  rw [run_storeVar_row _ _ t ty c c' hg hi hs h1]
  exact hK _ _ (h _ (setRow_heap w g c c' t _ hg) ⟨rfl, rfl, rfl, by simp, fun k _ hk => setRow_other w g k _ (fun e => hk (by rw [e]))⟩ (by simp))
/-- A whole struct is loaded out of the middle of a block. -/
theorem load_mid {dst : Option Tmp} {ty0 : TypeId} {pos : String} {after : Array Edge} (ty : TypeId) (x : Operand) (b o : Nat) (cs : List Value) (d : TypeDesc)
    (hx : a.eval x = .pointer (some ⟨b, o, none⟩)) (hc : w.rangeAt b o cs) (hu : P.underlying ty = some d) (hd : d.isRow = true) (hi : (P.info? ty).map (·.size) = some cs.length)
    (h : wpList P ops Q rest (a.put dst (.agg cs.toArray)) w) : wpList P ops Q (⟨dst, .load ty x, ty0, pos, after, none⟩ :: rest) a w :=
  wpList_load_mid rfl ty x rfl b o hx cs d hc hu hd hi h
/-- An operation that yields a value, by its run. -/
theorem op_value {o : Oper} (hg : o.guard = none) (v : Value) (hr : (execOp a.eval o).run P w = .ok (.value v) w) (h : wpList P ops Q rest (a.put o.dst v) w) : wpList P ops Q (o :: rest) a w := by
  refine wpList_plain hg fun K hK => ?_
  unfold Oper.wp
  rw [hr]
  exact hK _ _ h
/-- A call of a function that leaves the world, as one step of a region that draws. -/
theorem step_call {o : Oper} {K : Act → World → Prop} {E : Prop} (hgd : o.guard = none) (f : FuncId) (args : Array Value) (v : Value) (hr : (execOp a.eval o).run P w = .ok (.enter f args) w)
    (hc : Calls P f args w fun e w' => e = .returned v ∧ w = w') (h : K (a.put o.dst v) w) : if Region.wanted o (yielded ops a.tmps) = true then Oper.wp P o a w K Q else E := by
  have hw : Region.wanted o (yielded ops a.tmps) = true := by simp [Region.wanted, hgd]
  rw [if_pos hw]
  unfold Oper.wp
  rw [hr]
  refine hc.mono fun e w' ⟨he, hw⟩ => ?_
  subst he; subst hw
  exact h
end
end Go.Proofs.Ytecojcdmigmnhaa
