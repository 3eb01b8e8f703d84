/- Steps over an abstract frame, for wp_region_facts. -/
import Derived.Test.YtnkbbobdhcloeaaRv
import Derived.Test.YtnkbbobdhcloeaaAv5
namespace Go.Proofs.Ytnkbbobdhcloeaa
set_option linter.unusedSimpArgs false
set_option linter.unusedVariables false
open Go.RowKit
section
variable {P : Program} {ops : Array Oper} {Q : Exit → Act → World → Prop} {K : Act → World → Prop} {a : Act} {w : World} {o : Oper}
theorem op_of {i : Nat} (ho : ops[i]? = some o) (hgd : o.guard = none) (h : Oper.wp P o a w K Q) : wpOp P ops Q i K a w := by
  unfold wpOp
  rw [ho]
  have hw : Region.wanted o (yielded ops a.tmps) = true := by simp [Region.wanted, hgd]
  simp only [hw, if_true]
  exact .inl h
theorem act_eval {k : Nat} {v : Value} (h : a.tmps[k]? = some v) : a.eval (.tmp k) = v := by
  simp [Act.eval, h]
theorem put_at {d : Nat} {v : Value} (h : d < a.tmps.size) : (a.put (some d) v).tmps[d]? = some v := by
  simp [Act.put, h]
theorem put_off {d k : Nat} {v : Value} (h : k ≠ d) : (a.put (some d) v).tmps[k]? = a.tmps[k]? := by
  simp [Act.put, Array.getElem?_setIfInBounds, Ne.symm h]
theorem put_size {d : Option Tmp} {v : Value} : (a.put d v).tmps.size = a.tmps.size := by
  cases d <;> simp [Act.put]
theorem wp_value (v : Value) (w' : World) (hr : (execOp a.eval o).run P w = .ok (.value v) w') (h : K (a.put o.dst v) w') : Oper.wp P o a w K Q := by
  unfold Oper.wp
  rw [hr]
  exact h
theorem wp_move {x : Operand} (ho : o.op = .move x) (h : K (a.put o.dst (a.eval x)) w) : Oper.wp P o a w K Q :=
  wp_value _ w (by simp [execOp, ho]) h
theorem wp_enter (f : FuncId) (args : Array Value) (hr : (execOp a.eval o).run P w = .ok (.enter f args) w) (h : Calls P f args w fun e w' => ∃ v, e = .returned v ∧ K (a.put o.dst v) w') : Oper.wp P o a w K Q := by
  unfold Oper.wp
  rw [hr]
  exact h.mono fun e w' ⟨v, he, hk⟩ => by subst he; exact hk
theorem eval_func (f : FuncId) : a.eval (.func f) = .func (.func f) #[] #[] := rfl
theorem wp_call1 {f : FuncId} {x : Operand} {t : TypeId} (ho : o.op = .call { callee := .value (.func f), args := #[x], argTypes := #[t] }) (hcf : (callFunc f #[a.eval x]).run P w = .ok (.enter f #[a.eval x]) w)
    (h : Calls P f #[a.eval x] w fun e w' => ∃ v, e = .returned v ∧ K (a.put o.dst v) w') : Oper.wp P o a w K Q :=
  wp_enter f _ (by simp [execOp, ho, resolve, invoke, eval_func, hcf, Deferred.ofValue]) h
theorem wp_call2 {f : FuncId} {x y : Operand} {t u : TypeId} (ho : o.op = .call { callee := .value (.func f), args := #[x, y], argTypes := #[t, u] }) (hcf : (callFunc f #[a.eval x, a.eval y]).run P w = .ok (.enter f #[a.eval x, a.eval y]) w)
    (h : Calls P f #[a.eval x, a.eval y] w fun e w' => ∃ v, e = .returned v ∧ K (a.put o.dst v) w') : Oper.wp P o a w K Q :=
  wp_enter f _ (by simp [execOp, ho, resolve, invoke, eval_func, hcf, Deferred.ofValue]) h
theorem wp_alloc1 {t : TypeId} {z : Value} (ho : o.op = .alloc t) (hz : (zeroValue t).run P w = .ok z w) (h : K (a.put o.dst (.pointer (some ⟨w.heap.size, 0, none⟩))) (w.alloc (.cells z.cells t))) : Oper.wp P o a w K Q :=
  wp_value _ _ (by simp [execOp, ho, go_sem, hz, Value.cells]) h
theorem wp_load4 {t : TypeId} {x : Operand} (ho : o.op = .load t x) (b f : Nat) (hx : a.eval x = .pointer (some ⟨b, f, none⟩)) (cs : List Value) (d : TypeDesc) (hc : w.rangeAt b f cs) (hu : P.underlying t = some d) (hd : d.isRow = true) (hi : (P.info? t).map (·.size) = some cs.length)
    (h : K (a.put o.dst (.agg cs.toArray)) w) : Oper.wp P o a w K Q := wp_load_mid t x ho b f hx cs d hc hu hd hi h
end
end Go.Proofs.Ytnkbbobdhcloeaa
