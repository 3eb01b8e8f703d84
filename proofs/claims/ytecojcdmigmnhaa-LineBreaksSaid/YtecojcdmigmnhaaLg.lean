/- Words for guarded operations in a region: a guarded operation's slot is 'gval c v' (v where c holds, else nothing), so that a region does not part the walk. -/
import Derived.WalkKit
import Derived.WalkLawsBesides
import Derived.WalkSpells
import Derived.Handy
import Derived.LoopN
import Derived.Deep.DeepCutAuto
import Derived.Deep.CutBlock
import Derived.Deep.QuietTactic
import Derived.BigQuiet
import Derived.KernelRfl
import Derived.BigFrame
import Derived.Deep.Quiet
import Derived.Below
namespace Go.Proofs.Ytecojcdmigmnhaa
set_option linter.unusedSimpArgs false
set_option linter.unusedVariables false
open Go.RowKit
def gval (c : Bool) (v : Value) : Value := if c = true then v else undef
theorem gval_gval (c d : Bool) (v : Value) : gval c (gval d v) = gval (c && d) v := by cases c <;> cases d <;> rfl
theorem gval_true (v : Value) : gval true v = v := rfl
theorem gval_false (v : Value) : gval false v = undef := rfl
def isB (v : Value) (b : Bool) : Bool := match v with | .bool x => x == b | _ => false
def cnot (x : Bool) : Bool := !x
def cand (c x : Bool) : Bool := c && x
theorem cnot_t : cnot true = false := rfl
theorem cnot_f : cnot false = true := rfl
theorem cnot_iff (x : Bool) : (cnot x = true) = (x = false) := by cases x <;> simp [cnot]
theorem cand_iff (c x : Bool) : (cand c x = true) = (c = true ∧ x = true) := by cases x <;> simp [cand]
theorem cand_t (x : Bool) : cand true x = x := by cases x <;> rfl
theorem cand_f (x : Bool) : cand false x = false := rfl
theorem cand_f' (c : Bool) : cand c false = false := by cases c <;> rfl
theorem isB_t (x : Bool) : isB (.bool x) true = x := by cases x <;> rfl
theorem isB_f (x : Bool) : isB (.bool x) false = cnot x := by cases x <;> rfl
theorem isB_gt (c x : Bool) : isB (gval c (.bool x)) true = cand c x := by cases c <;> cases x <;> rfl
theorem isB_gf (c x : Bool) : isB (gval c (.bool x)) false = cand c (cnot x) := by cases c <;> cases x <;> rfl
theorem wanted_isB {o : Oper} {ops : Array Oper} {t : Array Value} {j : Nat} {b : Bool} {oj : Oper} {d : Nat} {v : Value} (hg : o.guard = some (j, b))
    (hj : ops[j]? = some oj) (hd : oj.dst = some d) (ht : t[d]? = some v) : Region.wanted o (yielded ops t) = isB v b := by
  simp only [Region.wanted, hg, yielded, hj, Option.bind_some, hd, ht, isB]
  cases v <;> simp
section
variable {P : Program} {ops : Array Oper} {Q : Exit → Act → World → Prop} {rest : List Oper} {o : Oper} {a : Act} {w : World} {j : Nat} {b : Bool} {oj : Oper} {d : Nat} {x : Value}
theorem wpList_gv (hg : o.guard = some (j, b)) (hj : ops[j]? = some oj) (hd : oj.dst = some d) (ht : a.tmps[d]? = some x)
    (h : ∃ c v, isB x b = c ∧ (c = true → (execOp a.eval o).run P w = .ok (.value v) w) ∧ wpList P ops Q rest (a.put o.dst (gval c v)) w) :
    wpList P ops Q (o :: rest) a w := by
  obtain ⟨c, v, hc, hr, hk⟩ := h
  refine wpList_step fun K hK => ?_
  rw [wanted_isB hg hj hd ht, hc]
  cases c with
  | false => simpa [gval] using hK _ _ hk
  | true =>
    simp only [if_true]
    unfold Oper.wp
    rw [hr rfl]
    exact hK _ _ hk
/-- A guarded call of a function that leaves the world as it is. -/
theorem wpList_gc (hg : o.guard = some (j, b)) (hj : ops[j]? = some oj) (hd : oj.dst = some d) (ht : a.tmps[d]? = some x)
    (h : ∃ c v f args, isB x b = c ∧ (c = true → (execOp a.eval o).run P w = .ok (.enter f args) w ∧ Calls P f args w fun e w' => e = .returned v ∧ w = w') ∧ wpList P ops Q rest (a.put o.dst (gval c v)) w) :
    wpList P ops Q (o :: rest) a w := by
  obtain ⟨c, v, f, args, hc, hr, hk⟩ := h
  refine wpList_step fun K hK => ?_
  rw [wanted_isB hg hj hd ht, hc]
  cases c with
  | false => simpa [gval] using hK _ _ hk
  | true =>
    obtain ⟨h1, h2⟩ := hr rfl
    simp only [if_true]
    unfold Oper.wp
    rw [h1]
    refine h2.mono fun e w' ⟨he, hw⟩ => ?_
    subst he; subst hw
    exact hK _ _ hk
theorem wpList_pk {c1 x1 x2 : Operand} (hg : o.guard = none) (ho : o.op = .pick c1 x1 x2) {y : Bool} {v : Value} (hx : a.eval c1 = .bool y)
    (hv : (if y = true then a.eval x1 else a.eval x2) = v) (h : wpList P ops Q rest (a.put o.dst v) w) : wpList P ops Q (o :: rest) a w := by
  refine wpList_step fun K hK => ?_
  have hw : Region.wanted o (yielded ops a.tmps) = true := by simp [Region.wanted, hg]
  rw [if_pos hw]
  have hr : (execOp a.eval o).run P w = .ok (.value v) w := by
    unfold execOp
    rw [ho]
    simp only [hx]
    rw [← hv]
    cases y <;> rfl
  unfold Oper.wp
  rw [hr]
  exact hK _ _ h
end
/-- All that lies in W lies so in w'. -/
def Lies (W w' : World) : Prop := Below W.heap.size W w'
theorem Lies.below {W w' : World} (h : Lies W w') : Below W.heap.size W w' := h
theorem bcell {W w1 : World} (hb : Below W.heap.size W w1) : (∀ b o, b < W.heap.size → w1.cell? ⟨b, o, none⟩ = W.cell? ⟨b, o, none⟩) ∧ (∀ b o, b < W.heap.size → w1.frozen? ⟨b, o, none⟩ = W.frozen? ⟨b, o, none⟩) :=
  ⟨fun b o h => hb.cell (p := ⟨b, o, none⟩) h, fun b o h => hb.frozen (p := ⟨b, o, none⟩) h⟩
theorem Below.on {n : Nat} {W0 W W' : World} (h : Below W.heap.size W W') (h0 : Below n W0 W) (hn : n ≤ W.heap.size) : Below n W0 W' := h0.trans (h.mono hn)
theorem Below.next {W W' W'' : World} (h : Below W.heap.size W W') (h' : Below W'.heap.size W' W'') : Below W.heap.size W W'' := h.trans (h'.mono h.size)
section
variable {P : Program} {ops : Array Oper} {C : World → Prop} {Q : Act → Prop} {rest : List Oper} {o : Oper} {a : Act}
/-- A region that draws its order, whose operations read and whose callees may lay new blocks: one walk, in the order of the text. -/
theorem wp_region_grow {id : Nat} {Q : Exit → Act → World → Prop} {w : World} {l : List Oper} (hm : P.follows .mixedOrders = true) (hB : Region.lexB .any l.toArray = true)
    (h : wpQuiet P l.toArray (Lies w) (fun a' => ∀ w', Lies w w' → Q .normal a' w') l a) : (Code.region id l.toArray true).wp P Q a w :=
  wp_region_quiet (C := Lies w) hm hB ((Below.refl _ _).drew) (by simpa using h)
theorem wpQuiet_val (hg : Region.wanted o (yielded ops a.tmps) = true) (v : Value) (hr : ∀ w', C w' → (execOp a.eval o).run P w' = .ok (.value v) w') (h : wpQuiet P ops C Q rest (a.put o.dst v)) :
    wpQuiet P ops C Q (o :: rest) a :=
  wpQuiet_step fun K hK => by
    rw [if_pos hg]
    refine ⟨v, fun w' hw' => ?_, hK _ h⟩
    unfold Oper.quietAt
    rw [hr w' hw']
    exact ⟨rfl, rfl⟩
theorem wpQuiet_call (hg : Region.wanted o (yielded ops a.tmps) = true) (f : FuncId) (args : Array Value) (hr : ∀ w', C w' → (execOp a.eval o).run P w' = .ok (.enter f args) w') (v : Value)
    (hc : ∀ w', C w' → Calls P f args w' fun e w'' => e = .returned v ∧ C w'') (h : wpQuiet P ops C Q rest (a.put o.dst v)) : wpQuiet P ops C Q (o :: rest) a :=
  wpQuiet_step fun K hK => by
    rw [if_pos hg]
    refine ⟨v, fun w' hw' => ?_, hK _ h⟩
    unfold Oper.quietAt
    rw [hr w' hw']
    exact ⟨rfl, hc w' hw'⟩
theorem wpQuiet_no (hg : Region.wanted o (yielded ops a.tmps) = false) (h : wpQuiet P ops C Q rest (a.put o.dst undef)) : wpQuiet P ops C Q (o :: rest) a :=
  wpQuiet_step fun K hK => by
    rw [if_neg (by rw [hg]; exact Bool.false_ne_true)]
    exact hK _ h
/-- A contract that only lays blocks, inside such a region. -/
theorem Calls.grow {f : FuncId} {args : Array Value} {W w : World} {v : Value} (hb : Lies W w) (h : Calls P f args w fun e w' => e = .returned v ∧ Below w.heap.size w w') :
    Calls P f args w fun e w'' => e = .returned v ∧ Lies W w'' := h.mono fun _ _ ⟨he, hw⟩ => ⟨he, Below.next hb hw⟩
theorem Calls.grow_same {f : FuncId} {args : Array Value} {W w : World} {v : Value} (hb : Lies W w) (h : Calls P f args w fun e w' => e = .returned v ∧ w = w') :
    Calls P f args w fun e w'' => e = .returned v ∧ Lies W w'' := h.mono fun _ _ ⟨he, hw⟩ => ⟨he, by subst hw; exact hb⟩
end
theorem pick_or (x : Bool) (y : Bool) : (if x = true then Value.bool true else gval (cnot x) (.bool y)) = .bool (x || y) := by cases x <;> rfl
theorem pick_and (x : Bool) (y : Bool) : (if x = true then gval x (.bool y) else Value.bool false) = .bool (x && y) := by cases x <;> rfl
end Go.Proofs.Ytecojcdmigmnhaa
