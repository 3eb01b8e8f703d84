/- Drawn regions by facts: steps over an abstract frame; two boxes are placed in one statement (two_at); a struct is copied into fresh blocks (copies2_at, copies3_at). -/
import Derived.Test.YtecojcdmigmnhaaRv
import Derived.Test.YtecojcdmigmnhaaSpn
namespace Go.Proofs.Ytecojcdmigmnhaa
set_option linter.unusedSimpArgs false
set_option linter.unusedVariables false
open Go.RowKit
theorem blk_keep {w w' : World} {b : Nat} {o : Obj} (h : w.heap[b]? = some o) (hb : Below w.heap.size w w') : w'.heap[b]? = some o := (hb.block b (Array.getElem?_eq_some_iff.1 h).1).trans h
def Row4 (b : Nat) (w : World) : Prop := ∃ C : Array Value, C.size = 4 ∧ w.heap[b]? = some (.cells C 52 (0, 0))
theorem Row4.set {b : Nat} {w : World} (h : Row4 b w) (k : Nat) (v : Value) : Row4 b (w.setCell ⟨b, k, none⟩ v) := by
  obtain ⟨C, hC, hb⟩ := h
  exact ⟨_, by simp [hC], heap_setCell_same w b k C _ v hb⟩
theorem Row4.keep {b : Nat} {w w' : World} (h : Below w.heap.size w w') (hr : Row4 b w) : Row4 b w' := by
  obtain ⟨C, hC, hb⟩ := hr
  exact ⟨C, hC, (h.block b (Array.getElem?_eq_some_iff.1 hb).1).trans hb⟩
theorem Row4.cells {b : Nat} {w : World} (h : Row4 b w) : ∃ a0 a1 a2 a3, w.heap[b]? = some (.cells #[a0, a1, a2, a3] 52 (0, 0)) := by
  obtain ⟨C, hC, hb⟩ := h
  refine ⟨C[0], C[1], C[2], C[3], hb.trans ?_⟩
  congr 2
  apply Array.ext
  · simp [hC]
  · intro i h1 h2
    have : i < 4 := by omega
    match i, this with
    | 0, _ => rfl
    | 1, _ => rfl
    | 2, _ => rfl
    | 3, _ => rfl
theorem sOn {n b : Nat} {W3 w1 w2 : World} {K : Prop} (hb : Below w1.heap.size w1 w2) (hn : n ≤ W3.heap.size) (h : Below n W3 w1 ∧ Row4 b w1 ∧ K) : Below n W3 w2 ∧ Row4 b w2 :=
  ⟨Below.on hb h.1 (Nat.le_trans hn h.1.size), Row4.keep hb h.2.1⟩
theorem st4 {n b : Nat} {W3 w : World} {K : Prop} (hn : n ≤ b) (h : Below n W3 w ∧ Row4 b w ∧ K) (v0 v1 v2 v3 : Value) :
    Below n W3 ((((w.setCell ⟨b, 0, none⟩ v0).setCell ⟨b, 1, none⟩ v1).setCell ⟨b, 2, none⟩ v2).setCell ⟨b, 3, none⟩ v3) ∧ Row4 b ((((w.setCell ⟨b, 0, none⟩ v0).setCell ⟨b, 1, none⟩ v1).setCell ⟨b, 2, none⟩ v2).setCell ⟨b, 3, none⟩ v3) :=
  ⟨Below.setCell (Below.setCell (Below.setCell (Below.setCell h.1 hn _) hn _) hn _) hn _, Row4.set (Row4.set (Row4.set (Row4.set h.2.1 _ _) _ _) _ _) _ _⟩
/- Rv2 -/
section
variable {P : Program} {ops : Array Oper} {Q : Exit → Act → World → Prop} {K : Act → World → Prop} {a : Act} {w : World} {o : Oper}
theorem op_of {i : Nat} (ho : ops[i]? = some o) (hgd : o.guard = none) (h : Oper.wp P o a w K Q) : wpOp P ops Q i K a w := by
  unfold wpOp
  rw [ho]
  have hw : Region.wanted o (yielded ops a.tmps) = true := by simp [Region.wanted, hgd]
  simp only [hw, if_true]
  exact .inl h
theorem act_eval {k : Nat} {v : Value} (h : a.tmps[k]? = some v) : a.eval (.tmp k) = v := by
  simp [Act.eval, h]
theorem put_at {d : Nat} {v : Value} (h : d < a.tmps.size) : (a.put (some d) v).tmps[d]? = some v := by
  simp [Act.put, h]
theorem put_off {d k : Nat} {v : Value} (h : k ≠ d) : (a.put (some d) v).tmps[k]? = a.tmps[k]? := by
  simp [Act.put, Array.getElem?_setIfInBounds, Ne.symm h]
theorem put_size {d : Option Tmp} {v : Value} : (a.put d v).tmps.size = a.tmps.size := by
  cases d <;> simp [Act.put]
theorem wp_value (v : Value) (w' : World) (hr : (execOp a.eval o).run P w = .ok (.value v) w') (h : K (a.put o.dst v) w') : Oper.wp P o a w K Q := by
  unfold Oper.wp
  rw [hr]
  exact h
theorem wp_move {x : Operand} (ho : o.op = .move x) (h : K (a.put o.dst (a.eval x)) w) : Oper.wp P o a w K Q :=
  wp_value _ w (by simp [execOp, ho]) h
theorem wp_enter (f : FuncId) (args : Array Value) (hr : (execOp a.eval o).run P w = .ok (.enter f args) w) (h : Calls P f args w fun e w' => ∃ v, e = .returned v ∧ K (a.put o.dst v) w') : Oper.wp P o a w K Q := by
  unfold Oper.wp
  rw [hr]
  exact h.mono fun e w' ⟨v, he, hk⟩ => by subst he; exact hk
theorem eval_func (f : FuncId) : a.eval (.func f) = .func (.func f) #[] #[] := rfl
theorem wp_call1 {f : FuncId} {x : Operand} {t : TypeId} (ho : o.op = .call { callee := .value (.func f), args := #[x], argTypes := #[t] }) (hcf : (callFunc f #[a.eval x]).run P w = .ok (.enter f #[a.eval x]) w)
    (h : Calls P f #[a.eval x] w fun e w' => ∃ v, e = .returned v ∧ K (a.put o.dst v) w') : Oper.wp P o a w K Q :=
  wp_enter f _ (by simp [execOp, ho, resolve, invoke, eval_func, hcf, Deferred.ofValue]) h
theorem wp_call2 {f : FuncId} {x y : Operand} {t u : TypeId} (ho : o.op = .call { callee := .value (.func f), args := #[x, y], argTypes := #[t, u] }) (hcf : (callFunc f #[a.eval x, a.eval y]).run P w = .ok (.enter f #[a.eval x, a.eval y]) w)
    (h : Calls P f #[a.eval x, a.eval y] w fun e w' => ∃ v, e = .returned v ∧ K (a.put o.dst v) w') : Oper.wp P o a w K Q :=
  wp_enter f _ (by simp [execOp, ho, resolve, invoke, eval_func, hcf, Deferred.ofValue]) h
theorem wp_alloc1 {t : TypeId} {z : Value} (ho : o.op = .alloc t) (hz : (zeroValue t).run P w = .ok z w) (h : K (a.put o.dst (.pointer (some ⟨w.heap.size, 0, none⟩))) (w.alloc (.cells z.cells t))) : Oper.wp P o a w K Q :=
  wp_value _ _ (by simp [execOp, ho, go_sem, hz, Value.cells]) h
theorem wp_load4 {t : TypeId} {x : Operand} (ho : o.op = .load t x) (b f : Nat) (hx : a.eval x = .pointer (some ⟨b, f, none⟩)) (cs : List Value) (d : TypeDesc) (hc : w.rangeAt b f cs) (hu : P.underlying t = some d) (hd : d.isRow = true) (hi : (P.info? t).map (·.size) = some cs.length)
    (h : K (a.put o.dst (.agg cs.toArray)) w) : Oper.wp P o a w K Q := wp_load_mid t x ho b f hx cs d hc hu hd hi h
end
/- Rv3 -/
/-- Block b is the row of four numbers. -/
def Is4 (b : Nat) (v : Int × Int × Int × Int) (w : World) : Prop := w.heap[b]? = some (.cells #[.int .i64 v.1, .int .i64 v.2.1, .int .i64 v.2.2.1, .int .i64 v.2.2.2] 52 (0, 0))
def agg4 (v : Int × Int × Int × Int) : Value := .agg #[.int .i64 v.1, .int .i64 v.2.1, .int .i64 v.2.2.1, .int .i64 v.2.2.2]
theorem wp_store4 {Q : Exit → Act → World → Prop} {K : Act → World → Prop} {a : Act} {w W3 : World} {o : Oper} {x y : Operand} {b n : Nat} {v : Int × Int × Int × Int} (ho : o.op = .store 52 x y) (hx : a.eval x = .pointer (some ⟨b, 0, none⟩)) (hy : a.eval y = agg4 v)
    (hr : Row4 b w) (hb : Below n W3 w) (hn : n ≤ b) (h : ∀ w', Is4 b v w' → Below n W3 w' → (∀ k, k ≠ b → w'.heap[k]? = w.heap[k]?) → w'.heap.size = w.heap.size → K (a.put o.dst undef) w') : Oper.wp Try.prog o a w K Q := by
  obtain ⟨a0, a1, a2, a3, hc⟩ := Row4.cells hr
  refine wp_store_mid 52 x y ho b 0 #[.int .i64 v.1, .int .i64 v.2.1, .int .i64 v.2.2.1, .int .i64 v.2.2.2] hx hy ?_ rectInfo (by simp [Value.oneCell']) ?_
  · intro j hj
    have hj : j < 4 := hj
    rw [Nat.zero_add]
    refine ⟨?_, frozen_of_row w b j _ _ hc⟩
    rw [cell_of_row w b j _ _ (0, 0) hc]
    match j, hj with
    | 0, _ => rfl
    | 1, _ => rfl
    | 2, _ => rfl
    | 3, _ => rfl
  · have hs := st4 (K := True) hn ⟨hb, hr, trivial⟩ (.int .i64 v.1) (.int .i64 v.2.1) (.int .i64 v.2.2.1) (.int .i64 v.2.2.2)
    refine h _ ?_ hs.1 ?_ ?_
    · exact heap_setCell_same _ _ 3 _ _ _ (heap_setCell_same _ _ 2 _ _ _ (heap_setCell_same _ _ 1 _ _ _ (heap_setCell_same w b 0 _ _ _ hc)))
    · intro k hk
      exact (heap_setCell_other _ _ k _ hk).trans ((heap_setCell_other _ _ k _ hk).trans ((heap_setCell_other _ _ k _ hk).trans (heap_setCell_other _ _ k _ hk)))
    · show ((((w.setCell _ _).setCell _ _).setCell _ _).setCell _ _).heap.size = _
      simp [World.setCell]
/- Rv4 -/
/-- Operation j waits for operation i. -/
def waitsB (ops : Array Oper) (j i : Nat) : Bool := match ops[j]? with | some o => o.after.any (fun e => Region.binds .any e && e.on == i) | none => false
theorem waits_at {ops : Array Oper} {j i : Nat} {o : Oper} (h : waitsB ops j i = true) (ho : ops[j]? = some o) : ∃ e ∈ o.after, Region.binds .any e = true ∧ e.on = i := by
  unfold waitsB at h
  rw [ho] at h
  simp only [Array.any_eq_true', Bool.and_eq_true, beq_iff_eq] at h
  exact h
def Ptr4 (n A : Nat) (a : Act) (w : World) : Prop := ∃ b, a.tmps[A]? = some (.pointer (some ⟨b, 0, none⟩)) ∧ n ≤ b ∧ Row4 b w
def Got4 (n A : Nat) (v : Int × Int × Int × Int) (a : Act) (w : World) : Prop := ∃ b, a.tmps[A]? = some (.pointer (some ⟨b, 0, none⟩)) ∧ n ≤ b ∧ Is4 b v w
theorem Is4.keep {b : Nat} {v : Int × Int × Int × Int} {w w' : World} (h : Below w.heap.size w w') (hr : Is4 b v w) : Is4 b v w' := (h.block b (Array.getElem?_eq_some_iff.1 hr).1).trans hr
theorem Ptr4.keep {n A : Nat} {a a' : Act} {w w' : World} (h : Ptr4 n A a w) (hb : Below w.heap.size w w') (ha : a'.tmps[A]? = a.tmps[A]?) : Ptr4 n A a' w' := by
  obtain ⟨b, h1, h2, h3⟩ := h
  exact ⟨b, ha.trans h1, h2, Row4.keep hb h3⟩
theorem Got4.keep {n A : Nat} {v : Int × Int × Int × Int} {a a' : Act} {w w' : World} (h : Got4 n A v a w) (hb : Below w.heap.size w w') (ha : a'.tmps[A]? = a.tmps[A]?) : Got4 n A v a' w' := by
  obtain ⟨b, h1, h2, h3⟩ := h
  exact ⟨b, ha.trans h1, h2, Is4.keep hb h3⟩
/-- The frame: what the region does not write, and the two pointers. -/
def Base2 (w0 : World) (T : Array Value) (ds : List Nat) (A B : Nat) (a : Act) (w : World) : Prop :=
  Below w0.heap.size w0 w ∧ a.tmps.size = T.size ∧ a.defers = [] ∧ (∀ k, k ∉ ds → a.tmps[k]? = T[k]?) ∧
  (∀ b, a.tmps[A]? = some (.pointer (some ⟨b, 0, none⟩)) → b < w.heap.size ∧ ∀ b', a.tmps[B]? = some (.pointer (some ⟨b', 0, none⟩)) → b ≠ b') ∧
  (∀ b, a.tmps[B]? = some (.pointer (some ⟨b, 0, none⟩)) → b < w.heap.size)
theorem Base2.grow {w0 : World} {T : Array Value} {ds : List Nat} {A B d : Nat} {a : Act} {w w' : World} {v : Value} (h : Base2 w0 T ds A B a w) (hb : Below w.heap.size w w') (hd : d ∈ ds) (hA : d ≠ A) (hB : d ≠ B) : Base2 w0 T ds A B (a.put (some d) v) w' := by
  obtain ⟨h1, h2, h3, h4, h5, h6⟩ := h
  have hs := hb.size
  refine ⟨Below.onto hb h1, put_size.trans h2, h3, fun k hk => ?_, fun b hba => ?_, fun b hbb => ?_⟩
  · rw [put_off (fun e : k = d => hk (by rw [e]; exact hd))]
    exact h4 k hk
  · rw [put_off (Ne.symm hA)] at hba
    refine ⟨by have := (h5 b hba).1; omega, fun b' hb' => ?_⟩
    rw [put_off (Ne.symm hB)] at hb'
    exact (h5 b hba).2 b' hb'
  · rw [put_off (Ne.symm hB)] at hbb
    have := h6 b hbb
    omega
/-- Behind an alloc into A. -/
theorem Base2.allocA {w0 : World} {T : Array Value} {ds : List Nat} {A B : Nat} {a : Act} {w : World} {o : Obj} (h : Base2 w0 T ds A B a w) (hA : A ∈ ds) (hs : A < T.size) (hAB : A ≠ B) : Base2 w0 T ds A B (a.put (some A) (.pointer (some ⟨w.heap.size, 0, none⟩))) (w.alloc o) := by
  obtain ⟨h1, h2, h3, h4, h5, h6⟩ := h
  have hb : Below w.heap.size w (w.alloc o) := (Below.refl _ _).alloc (Nat.le_refl _) _
  refine ⟨Below.onto hb h1, put_size.trans h2, h3, fun k hk => ?_, fun b hba => ?_, fun b hbb => ?_⟩
  · rw [put_off (fun e : k = A => hk (by rw [e]; exact hA))]
    exact h4 k hk
  · rw [put_at (by omega)] at hba
    cases hba
    refine ⟨by simp, fun b' hb' => ?_⟩
    rw [put_off (Ne.symm hAB)] at hb'
    have := h6 b' hb'
    omega
  · rw [put_off (Ne.symm hAB)] at hbb
    have := h6 b hbb
    simp
    omega
/-- Behind an alloc into B. -/
theorem Base2.allocB {w0 : World} {T : Array Value} {ds : List Nat} {A B : Nat} {a : Act} {w : World} {o : Obj} (h : Base2 w0 T ds A B a w) (hB : B ∈ ds) (hs : B < T.size) (hAB : A ≠ B) : Base2 w0 T ds A B (a.put (some B) (.pointer (some ⟨w.heap.size, 0, none⟩))) (w.alloc o) := by
  obtain ⟨h1, h2, h3, h4, h5, h6⟩ := h
  have hb : Below w.heap.size w (w.alloc o) := (Below.refl _ _).alloc (Nat.le_refl _) _
  refine ⟨Below.onto hb h1, put_size.trans h2, h3, fun k hk => ?_, fun b hba => ?_, fun b hbb => ?_⟩
  · rw [put_off (fun e : k = B => hk (by rw [e]; exact hB))]
    exact h4 k hk
  · rw [put_off hAB] at hba
    have h7 := (h5 b hba).1
    refine ⟨by simp; omega, fun b' hb' => ?_⟩
    rw [put_at (by omega)] at hb'
    cases hb'
    omega
  · rw [put_at (by omega)] at hbb
    cases hbb
    simp
/-- Behind a store. -/
theorem Base2.stored {w0 : World} {T : Array Value} {ds : List Nat} {A B : Nat} {a : Act} {w w' : World} (h : Base2 w0 T ds A B a w) (hb : Below w0.heap.size w0 w') (hs : w'.heap.size = w.heap.size) : Base2 w0 T ds A B a w' := by
  obtain ⟨h1, h2, h3, h4, h5, h6⟩ := h
  exact ⟨hb, h2, h3, h4, fun b hba => ⟨by rw [hs]; exact (h5 b hba).1, (h5 b hba).2⟩, fun b hbb => by rw [hs]; exact h6 b hbb⟩
/-- The fact of a fresh alloc. -/
theorem Ptr4.new {n A : Nat} {a : Act} {w : World} (hs : A < a.tmps.size) (hn : n ≤ w.heap.size) : Ptr4 n A (a.put (some A) (.pointer (some ⟨w.heap.size, 0, none⟩))) (w.alloc (.cells #[.int .i64 0, .int .i64 0, .int .i64 0, .int .i64 0] 52)) :=
  ⟨w.heap.size, put_at hs, hn, ⟨_, rfl, heap_alloc_new w _⟩⟩
/-- Facts about the other block behind a store. -/
theorem Ptr4.aside {n A b : Nat} {a : Act} {w w' : World} (h : Ptr4 n A a w) (hne : ∀ b', a.tmps[A]? = some (.pointer (some ⟨b', 0, none⟩)) → b' ≠ b) (hk : ∀ k, k ≠ b → w'.heap[k]? = w.heap[k]?) : Ptr4 n A a w' := by
  obtain ⟨b', h1, h2, C, h3, h4⟩ := h
  exact ⟨b', h1, h2, C, h3, (hk b' (hne b' h1)).trans h4⟩
theorem Got4.aside {n A b : Nat} {v : Int × Int × Int × Int} {a : Act} {w w' : World} (h : Got4 n A v a w) (hne : ∀ b', a.tmps[A]? = some (.pointer (some ⟨b', 0, none⟩)) → b' ≠ b) (hk : ∀ k, k ≠ b → w'.heap[k]? = w.heap[k]?) : Got4 n A v a w' := by
  obtain ⟨b', h1, h2, h3⟩ := h
  exact ⟨b', h1, h2, (hk b' (hne b' h1)).trans h3⟩
/- Rv5 -/
def OpIs (ops : Array Oper) (i : Nat) (op : Op) (dst : Option Tmp) : Prop := ∃ o, ops[i]? = some o ∧ o.op = op ∧ o.dst = dst ∧ o.guard = none
theorem OpIs.at {ops : Array Oper} {i : Nat} {op : Op} {dst : Option Tmp} {o : Oper} (h : OpIs ops i op dst) (ho : ops[i]? = some o) : o.op = op ∧ o.dst = dst ∧ o.guard = none := by
  obtain ⟨o', h1, h2⟩ := h
  rw [ho] at h1
  cases h1
  exact h2
/-- The facts, by number. -/
def R2 (n : Nat) (d : Nat → Nat) (sv u1 k1 sx u2 k2 : Value) (r1 r2 : Int × Int × Int × Int) : Nat → Act → World → Prop
  | 0, a, _ => a.tmps[d 0]? = some sv
  | 1, a, _ => a.tmps[d 1]? = some u1
  | 2, a, _ => a.tmps[d 2]? = some k1
  | 3, a, _ => a.tmps[d 3]? = some (agg4 r1)
  | 4, a, _ => a.tmps[d 4]? = some sx
  | 5, a, _ => a.tmps[d 5]? = some u2
  | 6, a, _ => a.tmps[d 6]? = some k2
  | 7, a, _ => a.tmps[d 7]? = some (agg4 r2)
  | 8, a, w => Ptr4 n (d 8) a w
  | 9, a, w => Ptr4 n (d 9) a w
  | 10, a, w => Got4 n (d 8) r1 a w
  | 11, a, w => Got4 n (d 9) r2 a w
  | _, _, _ => True
/-- An operation that fills a slot of its own and lays blocks at most. -/
theorem R2.put {n : Nat} {d : Nat → Nat} {sv u1 k1 sx u2 k2 : Value} {r1 r2 : Int × Int × Int × Int} (hd : ∀ i j, i < 10 → j < 10 → i ≠ j → d i ≠ d j) {i : Nat} (hi : i < 8) {a : Act} {w w' : World} {v : Value} (hb : Below w.heap.size w w') :
    ∀ j, j ≠ i → R2 n d sv u1 k1 sx u2 k2 r1 r2 j a w → R2 n d sv u1 k1 sx u2 k2 r1 r2 j (a.put (some (d i)) v) w' := by
  intro j hj h
  have ho : ∀ k, k < 10 → k ≠ i → (a.put (some (d i)) v).tmps[d k]? = a.tmps[d k]? := fun k hk hki => put_off (hd k i hk (by omega) hki)
  match j, hj, h with
  | 0, hj, h => exact (ho 0 (by omega) hj).trans h
  | 1, hj, h => exact (ho 1 (by omega) hj).trans h
  | 2, hj, h => exact (ho 2 (by omega) hj).trans h
  | 3, hj, h => exact (ho 3 (by omega) hj).trans h
  | 4, hj, h => exact (ho 4 (by omega) hj).trans h
  | 5, hj, h => exact (ho 5 (by omega) hj).trans h
  | 6, hj, h => exact (ho 6 (by omega) hj).trans h
  | 7, hj, h => exact (ho 7 (by omega) hj).trans h
  | 8, hj, h => exact Ptr4.keep h hb (ho 8 (by omega) hj)
  | 9, hj, h => exact Ptr4.keep h hb (ho 9 (by omega) hj)
  | 10, hj, h => exact Got4.keep h hb (ho 8 (by omega) (by omega))
  | 11, hj, h => exact Got4.keep h hb (ho 9 (by omega) (by omega))
  | _ + 12, hj, h => trivial
/-- An alloc (number 8 or 9): all but its own fact and its store's. -/
theorem R2.alloc {n : Nat} {d : Nat → Nat} {sv u1 k1 sx u2 k2 : Value} {r1 r2 : Int × Int × Int × Int} (hd : ∀ i j, i < 10 → j < 10 → i ≠ j → d i ≠ d j) {i : Nat} (hi : i = 8 ∨ i = 9) {a : Act} {w w' : World} {v : Value} (hb : Below w.heap.size w w') :
    ∀ j, j ≠ i → j ≠ i + 2 → R2 n d sv u1 k1 sx u2 k2 r1 r2 j a w → R2 n d sv u1 k1 sx u2 k2 r1 r2 j (a.put (some (d i)) v) w' := by
  intro j hj hj2 h
  have ho : ∀ k, k < 10 → k ≠ i → (a.put (some (d i)) v).tmps[d k]? = a.tmps[d k]? := fun k hk hki => put_off (hd k i hk (by omega) hki)
  match j, hj, hj2, h with
  | 0, hj, _, h => exact (ho 0 (by omega) hj).trans h
  | 1, hj, _, h => exact (ho 1 (by omega) hj).trans h
  | 2, hj, _, h => exact (ho 2 (by omega) hj).trans h
  | 3, hj, _, h => exact (ho 3 (by omega) hj).trans h
  | 4, hj, _, h => exact (ho 4 (by omega) hj).trans h
  | 5, hj, _, h => exact (ho 5 (by omega) hj).trans h
  | 6, hj, _, h => exact (ho 6 (by omega) hj).trans h
  | 7, hj, _, h => exact (ho 7 (by omega) hj).trans h
  | 8, hj, _, h => exact Ptr4.keep h hb (ho 8 (by omega) hj)
  | 9, hj, _, h => exact Ptr4.keep h hb (ho 9 (by omega) hj)
  | 10, hj, hj2, h => exact Got4.keep h hb (ho 8 (by omega) (by omega))
  | 11, hj, hj2, h => exact Got4.keep h hb (ho 9 (by omega) (by omega))
  | _ + 12, _, _, _ => trivial
/-- A store into A's block (number 10). -/
theorem R2.storeA {n : Nat} {d : Nat → Nat} {sv u1 k1 sx u2 k2 : Value} {r1 r2 v : Int × Int × Int × Int} {a : Act} {w w' : World} {b : Nat} (hA : a.tmps[d 8]? = some (.pointer (some ⟨b, 0, none⟩))) (hn : n ≤ b) (hv : Is4 b v w')
    (hne : ∀ b', a.tmps[d 9]? = some (.pointer (some ⟨b', 0, none⟩)) → b' ≠ b) (hk : ∀ k, k ≠ b → w'.heap[k]? = w.heap[k]?) :
    ∀ j, j ≠ 10 → R2 n d sv u1 k1 sx u2 k2 r1 r2 j a w → R2 n d sv u1 k1 sx u2 k2 r1 r2 j a w' := by
  intro j hj h
  match j, hj, h with
  | 0, _, h => exact h
  | 1, _, h => exact h
  | 2, _, h => exact h
  | 3, _, h => exact h
  | 4, _, h => exact h
  | 5, _, h => exact h
  | 6, _, h => exact h
  | 7, _, h => exact h
  | 8, _, h => exact ⟨b, hA, hn, _, rfl, hv⟩
  | 9, _, h => exact Ptr4.aside h hne hk
  | 10, hj, h => exact absurd rfl hj
  | 11, _, h => exact Got4.aside h hne hk
  | _ + 12, _, _ => trivial
/-- A store into B's block (number 11). -/
theorem R2.storeB {n : Nat} {d : Nat → Nat} {sv u1 k1 sx u2 k2 : Value} {r1 r2 v : Int × Int × Int × Int} {a : Act} {w w' : World} {b : Nat} (hB : a.tmps[d 9]? = some (.pointer (some ⟨b, 0, none⟩))) (hn : n ≤ b) (hv : Is4 b v w')
    (hne : ∀ b', a.tmps[d 8]? = some (.pointer (some ⟨b', 0, none⟩)) → b' ≠ b) (hk : ∀ k, k ≠ b → w'.heap[k]? = w.heap[k]?) :
    ∀ j, j ≠ 11 → R2 n d sv u1 k1 sx u2 k2 r1 r2 j a w → R2 n d sv u1 k1 sx u2 k2 r1 r2 j a w' := by
  intro j hj h
  match j, hj, h with
  | 0, _, h => exact h
  | 1, _, h => exact h
  | 2, _, h => exact h
  | 3, _, h => exact h
  | 4, _, h => exact h
  | 5, _, h => exact h
  | 6, _, h => exact h
  | 7, _, h => exact h
  | 8, _, h => exact Ptr4.aside h hne hk
  | 9, _, h => exact ⟨b, hB, hn, _, rfl, hv⟩
  | 10, _, h => exact Got4.aside h hne hk
  | 11, hj, h => exact absurd rfl hj
  | _ + 12, _, _ => trivial
theorem put_none {a : Act} {v : Value} : a.put none v = a := rfl
set_option maxHeartbeats 2000000 in
/-- THE REGION. (of, find: the two callees' numbers; d: the slots, s: the space's, p1, p2: the wants'.) -/
theorem two_finds {ops : Array Oper} {Q : Exit → Act → World → Prop} {id : Nat} {T : Array Value} {w0 : World} (d : Nat → Nat) (s sy p1 p2 bp1 bp2 : Nat) (sv sx k1 k2 : Value) (nO nF : FuncId) (cs1 cs2 : List Value) (r1 r2 : Int × Int × Int × Int) (tw ts tf : TypeId)  (dw : TypeDesc)
    (hm : (Try.prog).follows .mixedOrders = true) (hz : ops.size = 12)
    (hdep : ∀ (i : Nat) (o : Oper), ops[i]? = some o → ∀ e ∈ o.after, Region.binds .any e = true → e.on < i)
    (h0 : OpIs ops 0 (.move (.tmp s)) (some (d 0))) (h1 : OpIs ops 1 (.load tw (.tmp p1)) (some (d 1)))
    (h2 : OpIs ops 2 (.call { callee := .value (.func nO), args := #[.tmp (d 1)], argTypes := #[tw] }) (some (d 2)))
    (h3 : OpIs ops 3 (.call { callee := .value (.func nF), args := #[.tmp (d 0), .tmp (d 2)], argTypes := #[ts, tf] }) (some (d 3)))
    (h4 : OpIs ops 4 (.move (.tmp sy)) (some (d 4))) (h5 : OpIs ops 5 (.load tw (.tmp p2)) (some (d 5)))
    (h6 : OpIs ops 6 (.call { callee := .value (.func nO), args := #[.tmp (d 5)], argTypes := #[tw] }) (some (d 6)))
    (h7 : OpIs ops 7 (.call { callee := .value (.func nF), args := #[.tmp (d 4), .tmp (d 6)], argTypes := #[ts, tf] }) (some (d 7)))
    (h8 : OpIs ops 8 (.alloc 52) (some (d 8))) (h9 : OpIs ops 9 (.alloc 52) (some (d 9)))
    (h10 : OpIs ops 10 (.store 52 (.tmp (d 8)) (.tmp (d 3))) none) (h11 : OpIs ops 11 (.store 52 (.tmp (d 9)) (.tmp (d 7))) none)
    (cfO : ∀ x w, (callFunc nO #[x]).run Try.prog w = .ok (.enter nO #[x]) w) (cfF : ∀ x y w, (callFunc nF #[x, y]).run Try.prog w = .ok (.enter nF #[x, y]) w)
    (w21 : waitsB ops 2 1 = true) (w30 : waitsB ops 3 0 = true) (w32 : waitsB ops 3 2 = true) (w65 : waitsB ops 6 5 = true) (w74 : waitsB ops 7 4 = true) (w76 : waitsB ops 7 6 = true)
    (w108 : waitsB ops 10 8 = true) (w103 : waitsB ops 10 3 = true) (w119 : waitsB ops 11 9 = true) (w117 : waitsB ops 11 7 = true)
    (hd : ∀ i j, i < 10 → j < 10 → i ≠ j → d i ≠ d j) (hdT : ∀ i, i < 10 → d i < T.size) (hs : s ∉ (List.range 10).map d) (hsy : sy ∉ (List.range 10).map d) (hp1 : p1 ∉ (List.range 10).map d) (hp2 : p2 ∉ (List.range 10).map d)
    (ts0 : T[s]? = some sv) (ts1 : T[sy]? = some sx) (tp1 : T[p1]? = some (.pointer (some ⟨bp1, 0, none⟩))) (tp2 : T[p2]? = some (.pointer (some ⟨bp2, 0, none⟩)))
    (tA : ∀ b, T[d 8]? ≠ some (.pointer (some ⟨b, 0, none⟩))) (tB : ∀ b, T[d 9]? ≠ some (.pointer (some ⟨b, 0, none⟩)))
    (hu : (Try.prog).underlying tw = some dw) (hr : dw.isRow = true) (hi1 : ((Try.prog).info? tw).map (·.size) = some cs1.length) (hi2 : ((Try.prog).info? tw).map (·.size) = some cs2.length)
    (g1 : ∀ w, Below w0.heap.size w0 w → w.rangeAt bp1 0 cs1) (g2 : ∀ w, Below w0.heap.size w0 w → w.rangeAt bp2 0 cs2)
    (c1 : ∀ w, Calls Try.prog nO #[.agg cs1.toArray] w fun e w' => e = .returned k1 ∧ Below w.heap.size w w') (c2 : ∀ w, Calls Try.prog nO #[.agg cs2.toArray] w fun e w' => e = .returned k2 ∧ Below w.heap.size w w')
    (f1 : ∀ w, Below w0.heap.size w0 w → Calls Try.prog nF #[sv, k1] w fun e w' => e = .returned (agg4 r1) ∧ Below w.heap.size w w') (f2 : ∀ w, Below w0.heap.size w0 w → Calls Try.prog nF #[sx, k2] w fun e w' => e = .returned (agg4 r2) ∧ Below w.heap.size w w')
    (hend : ∀ a w, Base2 w0 T ((List.range 10).map d) (d 8) (d 9) a w → (∀ i, i < 12 → R2 w0.heap.size d sv (.agg cs1.toArray) k1 sx (.agg cs2.toArray) k2 r1 r2 i a w) → Q .normal a w) :
    (Code.region id ops true).wp Try.prog Q ⟨T, []⟩ w0 := by
  have hmem : ∀ i, i < 10 → d i ∈ (List.range 10).map d := fun i hi => List.mem_map.2 ⟨i, List.mem_range.2 hi, rfl⟩
  have hAB : d 8 ≠ d 9 := hd 8 9 (by omega) (by omega) (by omega)
  refine wp_region_facts hm (Base2 w0 T ((List.range 10).map d) (d 8) (d 9)) (R2 w0.heap.size d sv (.agg cs1.toArray) k1 sx (.agg cs2.toArray) k2 r1 r2) hdep ?_ (fun a w hb hR => hend a w hb (fun i hi => hR i (by omega))) ?_
  · intro i o a w ho hB hR
    have hi : i < 12 := by
      have := (Array.getElem?_eq_some_iff.1 ho).1
      omega
    have hw : ∀ j, waitsB ops i j = true → R2 w0.heap.size d sv (.agg cs1.toArray) k1 sx (.agg cs2.toArray) k2 r1 r2 j a w := fun j hj => by
      obtain ⟨e, he, hb, rfl⟩ := waits_at hj ho
      exact hR e he hb
    have hfr : ∀ k, k ∉ (List.range 10).map d → a.tmps[k]? = T[k]? := hB.2.2.2.1
    have hsz : ∀ i, i < 10 → d i < a.tmps.size := fun i hi => by rw [hB.2.1]; exact hdT i hi
    -- an operation that fills a slot of its own
    have own : ∀ (i : Nat) (v : Value) (w' : World), i < 8 → Below w.heap.size w w' → R2 w0.heap.size d sv (.agg cs1.toArray) k1 sx (.agg cs2.toArray) k2 r1 r2 i (a.put (some (d i)) v) w' →
        Base2 w0 T ((List.range 10).map d) (d 8) (d 9) (a.put (some (d i)) v) w' ∧ R2 w0.heap.size d sv (.agg cs1.toArray) k1 sx (.agg cs2.toArray) k2 r1 r2 i (a.put (some (d i)) v) w' ∧
        ∀ j oj, ops[j]? = some oj → j ≠ i → (∀ e ∈ oj.after, Region.binds .any e = true → e.on ≠ i) → R2 w0.heap.size d sv (.agg cs1.toArray) k1 sx (.agg cs2.toArray) k2 r1 r2 j a w → R2 w0.heap.size d sv (.agg cs1.toArray) k1 sx (.agg cs2.toArray) k2 r1 r2 j (a.put (some (d i)) v) w' :=
      fun i v w' hi hb hf => ⟨hB.grow hb (hmem i (by omega)) (hd i 8 (by omega) (by omega) (by omega)) (hd i 9 (by omega) (by omega) (by omega)), hf, fun j _ _ hj _ hRj => R2.put hd hi hb j hj hRj⟩
    match i, hi with
    | 0, _ =>
      obtain ⟨e1, e2, e3⟩ := h0.at ho
      refine op_of ho e3 (wp_move e1 ?_)
      rw [e2, act_eval ((hfr s hs).trans ts0)]
      exact own 0 sv w (by omega) (Below.refl _ _) (put_at (hsz 0 (by omega)))
    | 1, _ =>
      obtain ⟨e1, e2, e3⟩ := h1.at ho
      refine op_of ho e3 (wp_load4 e1 bp1 0 (act_eval ((hfr p1 hp1).trans tp1)) cs1 dw (g1 w hB.1) hu hr hi1 ?_)
      rw [e2]
      exact own 1 _ w (by omega) (Below.refl _ _) (put_at (hsz 1 (by omega)))
    | 2, _ =>
      obtain ⟨e1, e2, e3⟩ := h2.at ho
      have a1 := act_eval (hw 1 w21)
      refine op_of ho e3 (wp_call1 e1 (cfO _ _) ?_)
      rw [a1, e2]
      exact (c1 w).mono fun e w' ⟨he, hb⟩ => ⟨k1, he, own 2 k1 w' (by omega) hb (put_at (hsz 2 (by omega)))⟩
    | 3, _ =>
      obtain ⟨e1, e2, e3⟩ := h3.at ho
      have a1 := act_eval (hw 0 w30)
      have a2 := act_eval (hw 2 w32)
      refine op_of ho e3 (wp_call2 e1 (cfF _ _ _) ?_)
      rw [a1, a2, e2]
      exact (f1 w hB.1).mono fun e w' ⟨he, hb⟩ => ⟨agg4 r1, he, own 3 _ w' (by omega) hb (put_at (hsz 3 (by omega)))⟩
    | 4, _ =>
      obtain ⟨e1, e2, e3⟩ := h4.at ho
      refine op_of ho e3 (wp_move e1 ?_)
      rw [e2, act_eval ((hfr sy hsy).trans ts1)]
      exact own 4 sx w (by omega) (Below.refl _ _) (put_at (hsz 4 (by omega)))
    | 5, _ =>
      obtain ⟨e1, e2, e3⟩ := h5.at ho
      refine op_of ho e3 (wp_load4 e1 bp2 0 (act_eval ((hfr p2 hp2).trans tp2)) cs2 dw (g2 w hB.1) hu hr hi2 ?_)
      rw [e2]
      exact own 5 _ w (by omega) (Below.refl _ _) (put_at (hsz 5 (by omega)))
    | 6, _ =>
      obtain ⟨e1, e2, e3⟩ := h6.at ho
      have a1 := act_eval (hw 5 w65)
      refine op_of ho e3 (wp_call1 e1 (cfO _ _) ?_)
      rw [a1, e2]
      exact (c2 w).mono fun e w' ⟨he, hb⟩ => ⟨k2, he, own 6 k2 w' (by omega) hb (put_at (hsz 6 (by omega)))⟩
    | 7, _ =>
      obtain ⟨e1, e2, e3⟩ := h7.at ho
      have a1 := act_eval (hw 4 w74)
      have a2 := act_eval (hw 6 w76)
      refine op_of ho e3 (wp_call2 e1 (cfF _ _ _) ?_)
      rw [a1, a2, e2]
      exact (f2 w hB.1).mono fun e w' ⟨he, hb⟩ => ⟨agg4 r2, he, own 7 _ w' (by omega) hb (put_at (hsz 7 (by omega)))⟩
    | 8, _ =>
      obtain ⟨e1, e2, e3⟩ := h8.at ho
      refine op_of ho e3 (wp_alloc1 (z := .agg #[.int .i64 0, .int .i64 0, .int .i64 0, .int .i64 0]) e1 (by kernel_rfl) ?_)
      rw [e2]
      exact ⟨hB.allocA (hmem 8 (by omega)) (hdT 8 (by omega)) hAB, Ptr4.new (hsz 8 (by omega)) hB.1.size, fun j oj hoj hj hnw hRj => R2.alloc hd (.inl rfl) ((Below.refl _ _).alloc (Nat.le_refl _) _) j hj (fun e => by
        subst e
        obtain ⟨e', he', hb', h'⟩ := waits_at w108 hoj
        exact hnw e' he' hb' h') hRj⟩
    | 9, _ =>
      obtain ⟨e1, e2, e3⟩ := h9.at ho
      refine op_of ho e3 (wp_alloc1 (z := .agg #[.int .i64 0, .int .i64 0, .int .i64 0, .int .i64 0]) e1 (by kernel_rfl) ?_)
      rw [e2]
      exact ⟨hB.allocB (hmem 9 (by omega)) (hdT 9 (by omega)) hAB, Ptr4.new (hsz 9 (by omega)) hB.1.size, fun j oj hoj hj hnw hRj => R2.alloc hd (.inr rfl) ((Below.refl _ _).alloc (Nat.le_refl _) _) j hj (fun e => by
        subst e
        obtain ⟨e', he', hb', h'⟩ := waits_at w119 hoj
        exact hnw e' he' hb' h') hRj⟩
    | 10, _ =>
      obtain ⟨e1, e2, e3⟩ := h10.at ho
      obtain ⟨b, hA, hn, hrow⟩ := hw 8 w108
      have hv3 := hw 3 w103
      refine op_of ho e3 (wp_store4 e1 (act_eval hA) (act_eval hv3) hrow hB.1 hn (fun w' hv hb hk hs => ?_))
      rw [e2, put_none]
      exact ⟨hB.stored hb hs, ⟨b, hA, hn, hv⟩, fun j oj _ hj _ hRj => R2.storeA hA hn hv (fun b' hb' => Ne.symm ((hB.2.2.2.2.1 b hA).2 b' hb')) hk j hj hRj⟩
    | 11, _ =>
      obtain ⟨e1, e2, e3⟩ := h11.at ho
      obtain ⟨b, hA, hn, hrow⟩ := hw 9 w119
      have hv3 := hw 7 w117
      refine op_of ho e3 (wp_store4 e1 (act_eval hA) (act_eval hv3) hrow hB.1 hn (fun w' hv hb hk hs => ?_))
      rw [e2, put_none]
      exact ⟨hB.stored hb hs, ⟨b, hA, hn, hv⟩, fun j oj _ hj _ hRj => R2.storeB hA hn hv (fun b' hb' => (hB.2.2.2.2.1 b' hb').2 b hA) hk j hj hRj⟩
  · exact ⟨(Below.refl _ _).drew, rfl, rfl, fun _ _ => rfl, fun b hb => absurd hb (tA b), fun b hb => absurd hb (tB b)⟩
/- Rv6 -/
def ptr0 (b : Nat) : Value := .pointer (some ⟨b, 0, none⟩)
theorem set_at {T : Array Value} {k d : Nat} {v : Value} (h : d < T.size) : (T.setIfInBounds d v)[k]? = if k = d then some v else T[k]? := by
  rw [Array.getElem?_setIfInBounds]
  by_cases e : d = k
  · subst e; simp [h]
  · simp [e, Ne.symm e]
set_option maxHeartbeats 4000000 in
theorem frame2 {n : Nat} {T : Array Value} {d : Nat → Nat} {sv u1 k1 sx u2 k2 : Value} {r1 r2 : Int × Int × Int × Int} {w0 w : World} {a : Act} (hdT : ∀ i, i < 10 → d i < T.size) (hB : Base2 w0 T ((List.range 10).map d) (d 8) (d 9) a w) (hR : ∀ i, i < 12 → R2 n d sv u1 k1 sx u2 k2 r1 r2 i a w) :
    ∃ bA bB, a = ⟨(((((((((((T.setIfInBounds (d 0) sv).setIfInBounds (d 1) u1).setIfInBounds (d 2) k1).setIfInBounds (d 3) (agg4 r1)).setIfInBounds (d 4) sx).setIfInBounds (d 5) u2).setIfInBounds (d 6) k2).setIfInBounds (d 7) (agg4 r2)).setIfInBounds (d 8) (ptr0 bA)).setIfInBounds (d 9) (ptr0 bB))), []⟩ ∧
      Is4 bA r1 w ∧ Is4 bB r2 w ∧ bA ≠ bB ∧ n ≤ bA ∧ n ≤ bB ∧ Below w0.heap.size w0 w := by
  obtain ⟨bA, hA, hnA, hvA⟩ := hR 10 (by omega)
  obtain ⟨bB, hBp, hnB, hvB⟩ := hR 11 (by omega)
  refine ⟨bA, bB, ?_, hvA, hvB, (hB.2.2.2.2.1 bA hA).2 bB hBp, hnA, hnB, hB.1⟩
  obtain ⟨tm, df⟩ := a
  have hdf : df = [] := hB.2.2.1
  subst hdf
  refine congrArg (fun t => Act.mk t []) (Array.ext_getElem? ?_)
  intro k
  have h0 := hdT 0 (by omega)
  have h1 := hdT 1 (by omega)
  have h2 := hdT 2 (by omega)
  have h3 := hdT 3 (by omega)
  have h4 := hdT 4 (by omega)
  have h5 := hdT 5 (by omega)
  have h6 := hdT 6 (by omega)
  have h7 := hdT 7 (by omega)
  have h8 := hdT 8 (by omega)
  have h9 := hdT 9 (by omega)
  rw [set_at (by simpa using h9), set_at (by simpa using h8), set_at (by simpa using h7), set_at (by simpa using h6), set_at (by simpa using h5), set_at (by simpa using h4), set_at (by simpa using h3), set_at (by simpa using h2), set_at (by simpa using h1), set_at h0]
  split
  · rename_i e; rw [e]; exact hBp
  split
  · rename_i e; rw [e]; exact hA
  split
  · rename_i e; rw [e]; exact hR 7 (by omega)
  split
  · rename_i e; rw [e]; exact hR 6 (by omega)
  split
  · rename_i e; rw [e]; exact hR 5 (by omega)
  split
  · rename_i e; rw [e]; exact hR 4 (by omega)
  split
  · rename_i e; rw [e]; exact hR 3 (by omega)
  split
  · rename_i e; rw [e]; exact hR 2 (by omega)
  split
  · rename_i e; rw [e]; exact hR 1 (by omega)
  split
  · rename_i e; rw [e]; exact hR 0 (by omega)
  · rename_i e9 e8 e7 e6 e5 e4 e3 e2 e1 e0
    refine hB.2.2.2.1 k (fun hk => ?_)
    obtain ⟨i, hi, rfl⟩ := List.mem_map.1 hk
    have hi := List.mem_range.1 hi
    match i, hi with
    | 0, _ => exact e0 rfl
    | 1, _ => exact e1 rfl
    | 2, _ => exact e2 rfl
    | 3, _ => exact e3 rfl
    | 4, _ => exact e4 rfl
    | 5, _ => exact e5 rfl
    | 6, _ => exact e6 rfl
    | 7, _ => exact e7 rfl
    | 8, _ => exact e8 rfl
    | 9, _ => exact e9 rfl
/- Rv7 -/
/-- The slots: eight from x on, two from y on. -/
def dsl (x y : Nat) (i : Nat) : Nat := if i < 8 then x + i else y + (i - 8)
theorem dsl_ne {x y : Nat} (h : y + 1 < x) : ∀ i j, i < 10 → j < 10 → i ≠ j → dsl x y i ≠ dsl x y j := by
  intro i j hi hj hij
  unfold dsl
  split <;> split <;> omega
theorem dsl_lt {x y n : Nat} (h : y + 1 < x) (hn : x + 7 < n) : ∀ i, i < 10 → dsl x y i < n := by
  intro i hi
  unfold dsl
  split <;> omega
theorem dsl_off {x y s : Nat} (h1 : s < x ∨ x + 7 < s) (h2 : s ≠ y ∧ s ≠ y + 1) : s ∉ (List.range 10).map (dsl x y) := by
  intro hk
  obtain ⟨i, hi, e⟩ := List.mem_map.1 hk
  have hi := List.mem_range.1 hi
  unfold dsl at e
  split at e <;> omega
structure Ops12 (ops : Array Oper) (x y s sy p1 p2 : Nat) (nO nF : FuncId) (tw ts tf : TypeId) : Prop where
  h0 : OpIs ops 0 (.move (.tmp s)) (some x)
  h1 : OpIs ops 1 (.load tw (.tmp p1)) (some (x + 1))
  h2 : OpIs ops 2 (.call { callee := .value (.func nO), args := #[.tmp (x + 1)], argTypes := #[tw] }) (some (x + 2))
  h3 : OpIs ops 3 (.call { callee := .value (.func nF), args := #[.tmp x, .tmp (x + 2)], argTypes := #[ts, tf] }) (some (x + 3))
  h4 : OpIs ops 4 (.move (.tmp sy)) (some (x + 4))
  h5 : OpIs ops 5 (.load tw (.tmp p2)) (some (x + 5))
  h6 : OpIs ops 6 (.call { callee := .value (.func nO), args := #[.tmp (x + 5)], argTypes := #[tw] }) (some (x + 6))
  h7 : OpIs ops 7 (.call { callee := .value (.func nF), args := #[.tmp (x + 4), .tmp (x + 6)], argTypes := #[ts, tf] }) (some (x + 7))
  h8 : OpIs ops 8 (.alloc 52) (some y)
  h9 : OpIs ops 9 (.alloc 52) (some (y + 1))
  h10 : OpIs ops 10 (.store 52 (.tmp y) (.tmp (x + 3))) none
  h11 : OpIs ops 11 (.store 52 (.tmp (y + 1)) (.tmp (x + 7))) none
def waits12 (ops : Array Oper) : Bool := waitsB ops 2 1 && waitsB ops 3 0 && waitsB ops 3 2 && waitsB ops 6 5 && waitsB ops 7 4 && waitsB ops 7 6 && waitsB ops 10 8 && waitsB ops 10 3 && waitsB ops 11 9 && waitsB ops 11 7
theorem blk_range {w : World} {b : Nat} {cs : List Value} {t : TypeId} (h : w.heap[b]? = some (.cells cs.toArray t (0, 0))) : w.rangeAt b 0 cs := fun j v hv => by
  rw [Nat.zero_add, cell_of_row w b j _ _ (0, 0) h]
  simpa using hv
def depsB (ops : Array Oper) : Bool := (List.range ops.size).all fun i => match ops[i]? with | some o => o.after.all (fun e => !(Region.binds .any e) || decide (e.on < i)) | none => true
theorem deps_at {ops : Array Oper} (h : depsB ops = true) : ∀ (i : Nat) (o : Oper), ops[i]? = some o → ∀ e ∈ o.after, Region.binds .any e = true → e.on < i := by
  intro i o ho e he hb
  have hi : i < ops.size := (Array.getElem?_eq_some_iff.1 ho).1
  have h1 := List.all_eq_true.1 h i (List.mem_range.2 hi)
  rw [ho] at h1
  simp only [Array.all_eq_true', Bool.or_eq_true, Bool.not_eq_true', decide_eq_true_eq] at h1
  rcases h1 e he with h2 | h2
  · rw [hb] at h2; exact absurd h2 (by decide)
  · exact h2
set_option maxHeartbeats 2000000 in
theorem two_at {ops : Array Oper} {Q : Exit → Act → World → Prop} {id : Nat} {T : Array Value} {w0 : World} (x y s sy p1 p2 bp1 bp2 : Nat) (sv sx k1 k2 : Value) (nO nF : FuncId) (cs1 cs2 : List Value) (r1 r2 : Int × Int × Int × Int) (tw ts tf t1 t2 : TypeId) (dw : TypeDesc)
    (hm : (Try.prog).follows .mixedOrders = true) (hz : ops.size = 12) (hdep : depsB ops = true) (ho : Ops12 ops x y s sy p1 p2 nO nF tw ts tf) (hw : waits12 ops = true)
    (cfO : ∀ x w, (callFunc nO #[x]).run Try.prog w = .ok (.enter nO #[x]) w) (cfF : ∀ x y w, (callFunc nF #[x, y]).run Try.prog w = .ok (.enter nF #[x, y]) w)
    (hy : y + 1 < x) (hxT : x + 7 < T.size) (hs : (s < x ∨ x + 7 < s) ∧ s ≠ y ∧ s ≠ y + 1) (hsy : (sy < x ∨ x + 7 < sy) ∧ sy ≠ y ∧ sy ≠ y + 1) (hp1 : (p1 < x ∨ x + 7 < p1) ∧ p1 ≠ y ∧ p1 ≠ y + 1) (hp2 : (p2 < x ∨ x + 7 < p2) ∧ p2 ≠ y ∧ p2 ≠ y + 1)
    (ts0 : T[s]? = some sv) (ts1 : T[sy]? = some sx) (tp1 : T[p1]? = some (.pointer (some ⟨bp1, 0, none⟩))) (tp2 : T[p2]? = some (.pointer (some ⟨bp2, 0, none⟩))) (tA : T[y]? = some undef) (tB : T[y + 1]? = some undef)
    (hu : (Try.prog).underlying tw = some dw) (hr : dw.isRow = true) (hi1 : ((Try.prog).info? tw).map (·.size) = some cs1.length) (hi2 : ((Try.prog).info? tw).map (·.size) = some cs2.length)
    (g1 : w0.heap[bp1]? = some (.cells cs1.toArray t1 (0, 0))) (g2 : w0.heap[bp2]? = some (.cells cs2.toArray t2 (0, 0)))
    (c1 : ∀ w, Calls Try.prog nO #[.agg cs1.toArray] w fun e w' => e = .returned k1 ∧ Below w.heap.size w w') (c2 : ∀ w, Calls Try.prog nO #[.agg cs2.toArray] w fun e w' => e = .returned k2 ∧ Below w.heap.size w w')
    (f1 : ∀ w, Below w0.heap.size w0 w → Calls Try.prog nF #[sv, k1] w fun e w' => e = .returned (agg4 r1) ∧ Below w.heap.size w w') (f2 : ∀ w, Below w0.heap.size w0 w → Calls Try.prog nF #[sx, k2] w fun e w' => e = .returned (agg4 r2) ∧ Below w.heap.size w w')
    (hend : ∀ bA bB w, Is4 bA r1 w → Is4 bB r2 w → bA ≠ bB → w0.heap.size ≤ bA → w0.heap.size ≤ bB → Below w0.heap.size w0 w →
      Q .normal ⟨(((((((((((T.setIfInBounds x sv).setIfInBounds (x + 1) (.agg cs1.toArray)).setIfInBounds (x + 2) k1).setIfInBounds (x + 3) (agg4 r1)).setIfInBounds (x + 4) sx).setIfInBounds (x + 5) (.agg cs2.toArray)).setIfInBounds (x + 6) k2).setIfInBounds (x + 7) (agg4 r2)).setIfInBounds y (.pointer (some ⟨bA, 0, none⟩))).setIfInBounds (y + 1) (.pointer (some ⟨bB, 0, none⟩)))), []⟩ w) :
    (Code.region id ops true).wp Try.prog Q ⟨T, []⟩ w0 := by
  unfold waits12 at hw
  simp only [Bool.and_eq_true] at hw
  obtain ⟨⟨⟨⟨⟨⟨⟨⟨⟨w21, w30⟩, w32⟩, w65⟩, w74⟩, w76⟩, w108⟩, w103⟩, w119⟩, w117⟩ := hw
  refine two_finds (dsl x y) s sy p1 p2 bp1 bp2 sv sx k1 k2 nO nF cs1 cs2 r1 r2 tw ts tf dw hm hz (deps_at hdep) ho.h0 ho.h1 ho.h2 ho.h3 ho.h4 ho.h5 ho.h6 ho.h7 ho.h8 ho.h9 ho.h10 ho.h11 cfO cfF w21 w30 w32 w65 w74 w76 w108 w103 w119 w117
    (dsl_ne hy) (dsl_lt hy hxT) (dsl_off hs.1 hs.2) (dsl_off hsy.1 hsy.2) (dsl_off hp1.1 hp1.2) (dsl_off hp2.1 hp2.2) ts0 ts1 tp1 tp2 ?_ ?_ hu hr hi1 hi2 (fun w hb => blk_range (blk_keep g1 hb)) (fun w hb => blk_range (blk_keep g2 hb)) c1 c2 f1 f2 ?_
  · intro b hb
    have hb : T[y]? = some (.pointer (some ⟨b, 0, none⟩)) := hb
    rw [tA] at hb
    cases hb
  · intro b hb
    have hb : T[y + 1]? = some (.pointer (some ⟨b, 0, none⟩)) := hb
    rw [tB] at hb
    cases hb
  · intro a w hB hR
    obtain ⟨bA, bB, rfl, hA, hB2, hne, hnA, hnB, hb⟩ := frame2 (dsl_lt hy hxT) hB hR
    exact hend bA bB w hA hB2 hne hnA hnB hb
/- Rv8 -/
theorem wp_store_row {P : Program} {Q : Exit → Act → World → Prop} {K : Act → World → Prop} {a : Act} {w : World} {o : Oper} {ty t : TypeId} {x y : Operand} {g : Nat} {c c' : Array Value} (ho : o.op = .store ty x y) (hx : a.eval x = .pointer (some ⟨g, 0, none⟩)) (hy : a.eval y = .agg c')
    (hg : w.heap[g]? = some (.cells c t (0, 0))) (hi : (P.info? ty).map (·.size) = some c'.size) (hs : c.size = c'.size) (h1 : c'.all (·.oneCell') = true)
    (h : ∀ w2 : World, w2.heap[g]? = some (.cells c' t (0, 0)) → w.grownBy w2 (some g) → w2.heap.size = w.heap.size → K (a.put o.dst undef) w2) : Oper.wp P o a w K Q := by
  unfold Oper.wp execOp
  simp only [ho, hx, hy, Instr.storeAt, Instr.sureAddr, Sem.run_bind, Sem.run_pure, Result.andThen_ok]
  rw [run_storeVar_row _ _ t ty c c' hg hi hs h1]
  exact h _ (setRow_heap w g c c' t _ hg) ⟨rfl, rfl, rfl, by simp, fun k _ hk => setRow_other w g k _ (fun e => hk (by rw [e]))⟩ (by simp)
def PtrN (n A len : Nat) (t : TypeId) (a : Act) (w : World) : Prop := ∃ b c, a.tmps[A]? = some (.pointer (some ⟨b, 0, none⟩)) ∧ n ≤ b ∧ w.heap[b]? = some (.cells c t (0, 0)) ∧ c.size = len
def GotN (n A : Nat) (cs : Array Value) (t : TypeId) (a : Act) (w : World) : Prop := ∃ b, a.tmps[A]? = some (.pointer (some ⟨b, 0, none⟩)) ∧ n ≤ b ∧ w.heap[b]? = some (.cells cs t (0, 0))
/-- The facts, by number. -/
def RC (k x y n : Nat) (cs : Array Value) (t : TypeId) (i : Nat) (a : Act) (w : World) : Prop :=
  if i < k then a.tmps[x + i]? = some (.agg cs) else if i < 2 * k then PtrN n (y + (i - k)) cs.size t a w else if i < 3 * k then GotN n (y + (i - 2 * k)) cs t a w else True
/-- The frame: what the region does not write, and the pointers. -/
def BaseC (k x y : Nat) (w0 : World) (T : Array Value) (a : Act) (w : World) : Prop :=
  Below w0.heap.size w0 w ∧ a.tmps.size = T.size ∧ a.defers = [] ∧ (∀ s, (s < x ∨ x + k ≤ s) → (s < y ∨ y + k ≤ s) → a.tmps[s]? = T[s]?) ∧
  (∀ i, i < k → ∀ b, a.tmps[y + i]? = some (.pointer (some ⟨b, 0, none⟩)) → b < w.heap.size ∧ ∀ j, j < k → j ≠ i → ∀ b', a.tmps[y + j]? = some (.pointer (some ⟨b', 0, none⟩)) → b ≠ b')
theorem RC.load {k x y n i : Nat} {cs : Array Value} {t : TypeId} {a : Act} {w : World} (hi : i < k) : RC k x y n cs t i a w = (a.tmps[x + i]? = some (.agg cs)) := by unfold RC; rw [if_pos hi]
theorem RC.ptr {k x y n i : Nat} {cs : Array Value} {t : TypeId} {a : Act} {w : World} (hi : i < k) : RC k x y n cs t (k + i) a w = PtrN n (y + i) cs.size t a w := by unfold RC; rw [if_neg (by omega), if_pos (by omega)]; congr; omega
theorem RC.got {k x y n i : Nat} {cs : Array Value} {t : TypeId} {a : Act} {w : World} (hi : i < k) : RC k x y n cs t (2 * k + i) a w = GotN n (y + i) cs t a w := by unfold RC; rw [if_neg (by omega), if_neg (by omega), if_pos (by omega)]; congr; omega
theorem rc_cases {k j : Nat} : j < k ∨ (∃ i, i < k ∧ j = k + i) ∨ (∃ i, i < k ∧ j = 2 * k + i) ∨ 3 * k ≤ j := by
  by_cases h1 : j < k
  · exact .inl h1
  by_cases h2 : j < 2 * k
  · exact .inr (.inl ⟨j - k, by omega, by omega⟩)
  by_cases h3 : j < 3 * k
  · exact .inr (.inr (.inl ⟨j - 2 * k, by omega, by omega⟩))
  · exact .inr (.inr (.inr (by omega)))
theorem RC.end_ {k x y n i : Nat} {cs : Array Value} {t : TypeId} {a : Act} {w : World} (hi : 3 * k ≤ i) : RC k x y n cs t i a w := by unfold RC; rw [if_neg (by omega), if_neg (by omega), if_neg (by omega)]; trivial
theorem blk_lt {w : World} {b : Nat} {o : Obj} (h : w.heap[b]? = some o) : b < w.heap.size := (Array.getElem?_eq_some_iff.1 h).1
set_option maxHeartbeats 2000000 in
theorem copies_facts {ops : Array Oper} {Q : Exit → Act → World → Prop} {id : Nat} {T : Array Value} {w0 : World} (k x y p bp : Nat) (cs : List Value) (tw tx : TypeId) (dw : TypeDesc) (zs : List Value)
    (hm : (Try.prog).follows .mixedOrders = true) (hz : ops.size = 3 * k) (hdep : depsB ops = true)
    (hl : ∀ i, i < k → OpIs ops i (.load tw (.tmp p)) (some (x + i))) (ha : ∀ i, i < k → OpIs ops (k + i) (.alloc tw) (some (y + i))) (hst : ∀ i, i < k → OpIs ops (2 * k + i) (.store tw (.tmp (y + i)) (.tmp (x + i))) none)
    (hw1 : ∀ i, i < k → waitsB ops (2 * k + i) i = true) (hw2 : ∀ i, i < k → waitsB ops (2 * k + i) (k + i) = true)
    (hxy : y + k ≤ x) (hxT : x + k ≤ T.size) (hp : (p < x ∨ x + k ≤ p) ∧ (p < y ∨ y + k ≤ p)) (tp : T[p]? = some (.pointer (some ⟨bp, 0, none⟩))) (tA : ∀ i, i < k → T[y + i]? = some undef)
    (hu : (Try.prog).underlying tw = some dw) (hr : dw.isRow = true) (hi1 : ((Try.prog).info? tw).map (·.size) = some cs.length) (hone : cs.toArray.all (·.oneCell') = true)
    (hz1 : ∀ w, (zeroValue tw).run Try.prog w = .ok (.agg zs.toArray) w) (hz2 : (Value.agg zs.toArray).cells = zs.toArray) (hz3 : zs.length = cs.length)
    (g1 : w0.heap[bp]? = some (.cells cs.toArray tx (0, 0)))
    (hend : ∀ a w, BaseC k x y w0 T a w → (∀ i, i < 3 * k → RC k x y w0.heap.size cs.toArray tw i a w) → Q .normal a w) :
    (Code.region id ops true).wp Try.prog Q ⟨T, []⟩ w0 := by
  refine wp_region_facts hm (BaseC k x y w0 T) (RC k x y w0.heap.size cs.toArray tw) (deps_at hdep) ?_ (fun a w hb hR => hend a w hb (fun i hi => hR i (by omega))) ?_
  · intro i o a w ho hB hR
    have hi : i < 3 * k := by
      have := (Array.getElem?_eq_some_iff.1 ho).1
      omega
    have hwt : ∀ j, waitsB ops i j = true → RC k x y w0.heap.size cs.toArray tw j a w := fun j hj => by
      obtain ⟨e, he, hb, rfl⟩ := waits_at hj ho
      exact hR e he hb
    have hB' := hB
    obtain ⟨b1, b2, b3, b4, b5⟩ := hB'
    rcases rc_cases (k := k) (j := i) with hik | ⟨i', hik, rfl⟩ | ⟨i', hik, rfl⟩ | hik
    · -- a load
      obtain ⟨e1, e2, e3⟩ := (hl i hik).at ho
      refine op_of ho e3 (wp_load4 e1 bp 0 (act_eval ((b4 p hp.1 hp.2).trans tp)) cs dw (blk_range (blk_keep g1 b1)) hu hr hi1 ?_)
      rw [e2]
      have hpt : ∀ s, s ≠ x + i → (a.put (some (x + i)) (.agg cs.toArray)).tmps[s]? = a.tmps[s]? := fun s hs => put_off hs
      refine ⟨⟨b1, put_size.trans b2, b3, fun s h1 h2 => (hpt s (by omega)).trans (b4 s h1 h2), fun j hj b hb => ?_⟩, ?_, ?_⟩
      · rw [hpt _ (by omega)] at hb
        exact ⟨(b5 j hj b hb).1, fun j' hj' hne b' hb' => by rw [hpt _ (by omega)] at hb'; exact (b5 j hj b hb).2 j' hj' hne b' hb'⟩
      · rw [RC.load hik]; exact put_at (by omega)
      · intro j oj _ hj _ hRj
        rcases rc_cases (k := k) (j := j) with hjk | ⟨j', hjk, rfl⟩ | ⟨j', hjk, rfl⟩ | hjk
        · rw [RC.load hjk] at hRj ⊢; exact (hpt _ (by omega)).trans hRj
        · rw [RC.ptr hjk] at hRj ⊢
          obtain ⟨b, c, r1, r2⟩ := hRj
          exact ⟨b, c, (hpt _ (by omega)).trans r1, r2⟩
        · rw [RC.got hjk] at hRj ⊢
          obtain ⟨b, r1, r2⟩ := hRj
          exact ⟨b, (hpt _ (by omega)).trans r1, r2⟩
        · exact RC.end_ hjk
    · -- an alloc
      obtain ⟨e1, e2, e3⟩ := (ha i' hik).at ho
      refine op_of ho e3 (wp_alloc1 (z := .agg zs.toArray) e1 (hz1 w) ?_)
      rw [e2, hz2]
      have hpt : ∀ s, s ≠ y + i' → (a.put (some (y + i')) (.pointer (some ⟨w.heap.size, 0, none⟩))).tmps[s]? = a.tmps[s]? := fun s hs => put_off hs
      have hat : (a.put (some (y + i')) (.pointer (some ⟨w.heap.size, 0, none⟩))).tmps[y + i']? = some (.pointer (some ⟨w.heap.size, 0, none⟩)) := put_at (by omega)
      have hb0 : Below w.heap.size w (w.alloc (.cells zs.toArray tw)) := (Below.refl _ _).alloc (Nat.le_refl _) _
      have hsz : (w.alloc (.cells zs.toArray tw)).heap.size = w.heap.size + 1 := by simp
      refine ⟨⟨Below.onto hb0 b1, put_size.trans b2, b3, fun s h1 h2 => (hpt s (by omega)).trans (b4 s h1 h2), fun j hj b hb => ?_⟩, ?_, ?_⟩
      · by_cases hji : j = i'
        · subst hji
          rw [hat] at hb
          cases hb
          refine ⟨by omega, fun j' hj' hne b' hb' => ?_⟩
          rw [hpt _ (by omega)] at hb'
          have := (b5 j' hj' b' hb').1
          omega
        · rw [hpt _ (by omega)] at hb
          have h5 := b5 j hj b hb
          refine ⟨by omega, fun j' hj' hne b' hb' => ?_⟩
          by_cases hji' : j' = i'
          · subst hji'
            rw [hat] at hb'
            cases hb'
            omega
          · rw [hpt _ (by omega)] at hb'
            exact h5.2 j' hj' hne b' hb'
      · rw [RC.ptr hik]
        exact ⟨w.heap.size, _, hat, b1.size, heap_alloc_new w _, by simp [hz3]⟩
      · intro j oj hoj hj hnw hRj
        rcases rc_cases (k := k) (j := j) with hjk | ⟨j', hjk, rfl⟩ | ⟨j', hjk, rfl⟩ | hjk
        · rw [RC.load hjk] at hRj ⊢; exact (hpt _ (by omega)).trans hRj
        · rw [RC.ptr hjk] at hRj ⊢
          obtain ⟨b, c, r1, r2, r3, r4⟩ := hRj
          exact ⟨b, c, (hpt _ (by omega)).trans r1, r2, blk_keep r3 hb0, r4⟩
        · have hne : j' ≠ i' := fun e => by
            subst e
            obtain ⟨e', he', hb', h'⟩ := waits_at (hw2 j' hjk) hoj
            exact hnw e' he' hb' h'
          rw [RC.got hjk] at hRj ⊢
          obtain ⟨b, r1, r2, r3⟩ := hRj
          exact ⟨b, (hpt _ (by omega)).trans r1, r2, blk_keep r3 hb0⟩
        · exact RC.end_ hjk
    · -- a store
      obtain ⟨e1, e2, e3⟩ := (hst i' hik).at ho
      have h1 := hwt _ (hw1 i' hik)
      have h2 := hwt _ (hw2 i' hik)
      rw [RC.load hik] at h1
      rw [RC.ptr hik] at h2
      obtain ⟨b, c, r1, r2, r3, r4⟩ := h2
      refine op_of ho e3 (wp_store_row e1 (act_eval r1) (act_eval h1) r3 (by simpa using hi1) r4 hone (fun w2 hg hgr hs2 => ?_))
      rw [e2, put_none]
      have hoth : ∀ b', b' ≠ b → b' < w.heap.size → w2.heap[b']? = w.heap[b']? := fun b' hne hlt => hgr.block b' hlt (fun e => by injection e with e; first | exact hne e | exact hne e.symm)
      refine ⟨⟨b1.grown hgr b1.size (fun k hk => by injection hk with hk; omega), b2, b3, b4, fun j hj b hb => by rw [hs2]; exact b5 j hj b hb⟩, ?_, ?_⟩
      · rw [RC.got hik]; exact ⟨b, r1, r2, hg⟩
      · intro j oj hoj hj hnw hRj
        rcases rc_cases (k := k) (j := j) with hjk | ⟨j', hjk, rfl⟩ | ⟨j', hjk, rfl⟩ | hjk
        · rw [RC.load hjk] at hRj ⊢; exact hRj
        · rw [RC.ptr hjk] at hRj ⊢
          obtain ⟨b', c', s1, s2, s3, s4⟩ := hRj
          by_cases hji : j' = i'
          · subst hji
            rw [r1] at s1
            cases s1
            exact ⟨b, cs.toArray, r1, r2, hg, rfl⟩
          · have hne := (b5 i' hik b r1).2 j' hjk hji b' s1
            exact ⟨b', c', s1, s2, (hoth b' (Ne.symm hne) (blk_lt s3)).trans s3, s4⟩
        · rw [RC.got hjk] at hRj ⊢
          obtain ⟨b', s1, s2, s3⟩ := hRj
          have hji : j' ≠ i' := fun e => hj (by rw [e])
          have hne := (b5 i' hik b r1).2 j' hjk hji b' s1
          exact ⟨b', s1, s2, (hoth b' (Ne.symm hne) (blk_lt s3)).trans s3⟩
        · exact RC.end_ hjk
    · omega
  · refine ⟨(Below.refl _ _).drew, rfl, rfl, fun _ _ _ => rfl, fun i hi b hb => ?_⟩
    have hb : T[y + i]? = some (.pointer (some ⟨b, 0, none⟩)) := hb
    rw [tA i hi] at hb
    cases hb
/- Rv9 -/
set_option maxHeartbeats 2000000 in
theorem copies2_at {ops : Array Oper} {Q : Exit → Act → World → Prop} {id : Nat} {T : Array Value} {w0 : World} (x y p bp : Nat) (cs : List Value) (tw tx : TypeId) (dw : TypeDesc) (zs : List Value)
    (hm : (Try.prog).follows .mixedOrders = true) (hz : ops.size = 6) (hdep : depsB ops = true)
    (ho : OpIs ops 0 (.load tw (.tmp p)) (some (x + 0)) ∧ OpIs ops 1 (.load tw (.tmp p)) (some (x + 1)) ∧ OpIs ops 2 (.alloc tw) (some (y + 0)) ∧ OpIs ops 3 (.alloc tw) (some (y + 1)) ∧ OpIs ops 4 (.store tw (.tmp (y + 0)) (.tmp (x + 0))) none ∧ OpIs ops 5 (.store tw (.tmp (y + 1)) (.tmp (x + 1))) none)
    (hw : (waitsB ops 4 0 && waitsB ops 4 2 && waitsB ops 5 1 && waitsB ops 5 3) = true)
    (hxy : y + 2 ≤ x) (hxT : x + 2 ≤ T.size) (hp : (p < x ∨ x + 2 ≤ p) ∧ (p < y ∨ y + 2 ≤ p)) (tp : T[p]? = some (.pointer (some ⟨bp, 0, none⟩))) (tA0 : T[y + 0]? = some undef) (tA1 : T[y + 1]? = some undef)
    (hu : (Try.prog).underlying tw = some dw) (hr : dw.isRow = true) (hi1 : ((Try.prog).info? tw).map (·.size) = some cs.length) (hone : cs.toArray.all (·.oneCell') = true)
    (hz1 : ∀ w, (zeroValue tw).run Try.prog w = .ok (.agg zs.toArray) w) (hz2 : (Value.agg zs.toArray).cells = zs.toArray) (hz3 : zs.length = cs.length)
    (g1 : w0.heap[bp]? = some (.cells cs.toArray tx (0, 0)))
    (hend : ∀ b0 b1 w, w.heap[b0]? = some (.cells cs.toArray tw (0, 0)) → w.heap[b1]? = some (.cells cs.toArray tw (0, 0)) → b0 ≠ b1 → w0.heap.size ≤ b0 → w0.heap.size ≤ b1 → Below w0.heap.size w0 w → Q .normal ⟨((((T.setIfInBounds x (.agg cs.toArray)).setIfInBounds (x + 1) (.agg cs.toArray)).setIfInBounds y (.pointer (some ⟨b0, 0, none⟩))).setIfInBounds (y + 1) (.pointer (some ⟨b1, 0, none⟩))), []⟩ w) :
    (Code.region id ops true).wp Try.prog Q ⟨T, []⟩ w0 := by
  obtain ⟨o0, o1, o2, o3, o4, o5⟩ := ho
  simp only [Bool.and_eq_true] at hw
  obtain ⟨⟨⟨v0, v1⟩, v2⟩, v3⟩ := hw
  refine copies_facts 2 x y p bp cs tw tx dw zs hm hz hdep (fun i hi => match i, hi with | 0, _ => o0 | 1, _ => o1) (fun i hi => match i, hi with | 0, _ => o2 | 1, _ => o3) (fun i hi => match i, hi with | 0, _ => o4 | 1, _ => o5) (fun i hi => match i, hi with | 0, _ => v0 | 1, _ => v2) (fun i hi => match i, hi with | 0, _ => v1 | 1, _ => v3) hxy hxT hp tp (fun i hi => match i, hi with | 0, _ => tA0 | 1, _ => tA1) hu hr hi1 hone hz1 hz2 hz3 g1 ?_
  intro a w hB hR
  obtain ⟨c1, c2, c3, c4, c5⟩ := hB
  obtain ⟨b0, q0, n0, g0⟩ := (RC.got (i := 0) (by omega)).mp (hR (2 * 2 + 0) (by omega))
  have l0 := (RC.load (i := 0) (by omega)).mp (hR 0 (by omega))
  obtain ⟨b1, q1, n1, g1⟩ := (RC.got (i := 1) (by omega)).mp (hR (2 * 2 + 1) (by omega))
  have l1 := (RC.load (i := 1) (by omega)).mp (hR 1 (by omega))
  have he : a = ⟨((((T.setIfInBounds x (.agg cs.toArray)).setIfInBounds (x + 1) (.agg cs.toArray)).setIfInBounds y (.pointer (some ⟨b0, 0, none⟩))).setIfInBounds (y + 1) (.pointer (some ⟨b1, 0, none⟩))), []⟩ := by
    obtain ⟨tm, df⟩ := a
    have c3 : df = [] := c3
    subst c3
    refine congrArg (fun t => Act.mk t []) (Array.ext_getElem? ?_)
    intro s
    rw [set_at (by (try simp only [Array.size_setIfInBounds]); omega), set_at (by (try simp only [Array.size_setIfInBounds]); omega), set_at (by (try simp only [Array.size_setIfInBounds]); omega), set_at (by (try simp only [Array.size_setIfInBounds]); omega)]
    split
    · rename_i e; rw [e]; exact q1
    split
    · rename_i e; rw [e]; exact q0
    split
    · rename_i e; rw [e]; exact l1
    split
    · rename_i e; rw [e]; exact l0
    · exact c4 s (by omega) (by omega)
  rw [he]
  exact hend b0 b1 w g0 g1 ((c5 0 (by omega) b0 q0).2 1 (by omega) (by omega) b1 q1) n0 n1 c1
set_option maxHeartbeats 2000000 in
theorem copies3_at {ops : Array Oper} {Q : Exit → Act → World → Prop} {id : Nat} {T : Array Value} {w0 : World} (x y p bp : Nat) (cs : List Value) (tw tx : TypeId) (dw : TypeDesc) (zs : List Value)
    (hm : (Try.prog).follows .mixedOrders = true) (hz : ops.size = 9) (hdep : depsB ops = true)
    (ho : OpIs ops 0 (.load tw (.tmp p)) (some (x + 0)) ∧ OpIs ops 1 (.load tw (.tmp p)) (some (x + 1)) ∧ OpIs ops 2 (.load tw (.tmp p)) (some (x + 2)) ∧ OpIs ops 3 (.alloc tw) (some (y + 0)) ∧ OpIs ops 4 (.alloc tw) (some (y + 1)) ∧ OpIs ops 5 (.alloc tw) (some (y + 2)) ∧ OpIs ops 6 (.store tw (.tmp (y + 0)) (.tmp (x + 0))) none ∧ OpIs ops 7 (.store tw (.tmp (y + 1)) (.tmp (x + 1))) none ∧ OpIs ops 8 (.store tw (.tmp (y + 2)) (.tmp (x + 2))) none)
    (hw : (waitsB ops 6 0 && waitsB ops 6 3 && waitsB ops 7 1 && waitsB ops 7 4 && waitsB ops 8 2 && waitsB ops 8 5) = true)
    (hxy : y + 3 ≤ x) (hxT : x + 3 ≤ T.size) (hp : (p < x ∨ x + 3 ≤ p) ∧ (p < y ∨ y + 3 ≤ p)) (tp : T[p]? = some (.pointer (some ⟨bp, 0, none⟩))) (tA0 : T[y + 0]? = some undef) (tA1 : T[y + 1]? = some undef) (tA2 : T[y + 2]? = some undef)
    (hu : (Try.prog).underlying tw = some dw) (hr : dw.isRow = true) (hi1 : ((Try.prog).info? tw).map (·.size) = some cs.length) (hone : cs.toArray.all (·.oneCell') = true)
    (hz1 : ∀ w, (zeroValue tw).run Try.prog w = .ok (.agg zs.toArray) w) (hz2 : (Value.agg zs.toArray).cells = zs.toArray) (hz3 : zs.length = cs.length)
    (g1 : w0.heap[bp]? = some (.cells cs.toArray tx (0, 0)))
    (hend : ∀ b0 b1 b2 w, w.heap[b0]? = some (.cells cs.toArray tw (0, 0)) → w.heap[b1]? = some (.cells cs.toArray tw (0, 0)) → w.heap[b2]? = some (.cells cs.toArray tw (0, 0)) → b0 ≠ b1 → b0 ≠ b2 → b1 ≠ b2 → w0.heap.size ≤ b0 → w0.heap.size ≤ b1 → w0.heap.size ≤ b2 → Below w0.heap.size w0 w → Q .normal ⟨((((((T.setIfInBounds x (.agg cs.toArray)).setIfInBounds (x + 1) (.agg cs.toArray)).setIfInBounds (x + 2) (.agg cs.toArray)).setIfInBounds y (.pointer (some ⟨b0, 0, none⟩))).setIfInBounds (y + 1) (.pointer (some ⟨b1, 0, none⟩))).setIfInBounds (y + 2) (.pointer (some ⟨b2, 0, none⟩))), []⟩ w) :
    (Code.region id ops true).wp Try.prog Q ⟨T, []⟩ w0 := by
  obtain ⟨o0, o1, o2, o3, o4, o5, o6, o7, o8⟩ := ho
  simp only [Bool.and_eq_true] at hw
  obtain ⟨⟨⟨⟨⟨v0, v1⟩, v2⟩, v3⟩, v4⟩, v5⟩ := hw
  refine copies_facts 3 x y p bp cs tw tx dw zs hm hz hdep (fun i hi => match i, hi with | 0, _ => o0 | 1, _ => o1 | 2, _ => o2) (fun i hi => match i, hi with | 0, _ => o3 | 1, _ => o4 | 2, _ => o5) (fun i hi => match i, hi with | 0, _ => o6 | 1, _ => o7 | 2, _ => o8) (fun i hi => match i, hi with | 0, _ => v0 | 1, _ => v2 | 2, _ => v4) (fun i hi => match i, hi with | 0, _ => v1 | 1, _ => v3 | 2, _ => v5) hxy hxT hp tp (fun i hi => match i, hi with | 0, _ => tA0 | 1, _ => tA1 | 2, _ => tA2) hu hr hi1 hone hz1 hz2 hz3 g1 ?_
  intro a w hB hR
  obtain ⟨c1, c2, c3, c4, c5⟩ := hB
  obtain ⟨b0, q0, n0, g0⟩ := (RC.got (i := 0) (by omega)).mp (hR (2 * 3 + 0) (by omega))
  have l0 := (RC.load (i := 0) (by omega)).mp (hR 0 (by omega))
  obtain ⟨b1, q1, n1, g1⟩ := (RC.got (i := 1) (by omega)).mp (hR (2 * 3 + 1) (by omega))
  have l1 := (RC.load (i := 1) (by omega)).mp (hR 1 (by omega))
  obtain ⟨b2, q2, n2, g2⟩ := (RC.got (i := 2) (by omega)).mp (hR (2 * 3 + 2) (by omega))
  have l2 := (RC.load (i := 2) (by omega)).mp (hR 2 (by omega))
  have he : a = ⟨((((((T.setIfInBounds x (.agg cs.toArray)).setIfInBounds (x + 1) (.agg cs.toArray)).setIfInBounds (x + 2) (.agg cs.toArray)).setIfInBounds y (.pointer (some ⟨b0, 0, none⟩))).setIfInBounds (y + 1) (.pointer (some ⟨b1, 0, none⟩))).setIfInBounds (y + 2) (.pointer (some ⟨b2, 0, none⟩))), []⟩ := by
    obtain ⟨tm, df⟩ := a
    have c3 : df = [] := c3
    subst c3
    refine congrArg (fun t => Act.mk t []) (Array.ext_getElem? ?_)
    intro s
    rw [set_at (by (try simp only [Array.size_setIfInBounds]); omega), set_at (by (try simp only [Array.size_setIfInBounds]); omega), set_at (by (try simp only [Array.size_setIfInBounds]); omega), set_at (by (try simp only [Array.size_setIfInBounds]); omega), set_at (by (try simp only [Array.size_setIfInBounds]); omega), set_at (by (try simp only [Array.size_setIfInBounds]); omega)]
    split
    · rename_i e; rw [e]; exact q2
    split
    · rename_i e; rw [e]; exact q1
    split
    · rename_i e; rw [e]; exact q0
    split
    · rename_i e; rw [e]; exact l2
    split
    · rename_i e; rw [e]; exact l1
    split
    · rename_i e; rw [e]; exact l0
    · exact c4 s (by omega) (by omega)
  rw [he]
  exact hend b0 b1 b2 w g0 g1 g2 ((c5 0 (by omega) b0 q0).2 1 (by omega) (by omega) b1 q1) ((c5 0 (by omega) b0 q0).2 2 (by omega) (by omega) b2 q2) ((c5 1 (by omega) b1 q1).2 2 (by omega) (by omega) b2 q2) n0 n1 n2 c1
end Go.Proofs.Ytecojcdmigmnhaa
