/- Two boxes are placed in one statement: a, b := Find(s, Of(w)), Find(s, Of(x)). -/
import Derived.Test.YtnkbbobdhcloeaaRv3
namespace Go.Proofs.Ytnkbbobdhcloeaa
set_option linter.unusedSimpArgs false
set_option linter.unusedVariables false
open Go.RowKit
/-- Operation j waits for operation i. -/
def waitsB (ops : Array Oper) (j i : Nat) : Bool := match ops[j]? with | some o => o.after.any (fun e => Region.binds .any e && e.on == i) | none => false
theorem waits_at {ops : Array Oper} {j i : Nat} {o : Oper} (h : waitsB ops j i = true) (ho : ops[j]? = some o) : ∃ e ∈ o.after, Region.binds .any e = true ∧ e.on = i := by
  unfold waitsB at h
  rw [ho] at h
  simp only [Array.any_eq_true', Bool.and_eq_true, beq_iff_eq] at h
  exact h
def Ptr4 (n A : Nat) (a : Act) (w : World) : Prop := ∃ b, a.tmps[A]? = some (.pointer (some ⟨b, 0, none⟩)) ∧ n ≤ b ∧ Row4 b w
def Got4 (n A : Nat) (v : Int × Int × Int × Int) (a : Act) (w : World) : Prop := ∃ b, a.tmps[A]? = some (.pointer (some ⟨b, 0, none⟩)) ∧ n ≤ b ∧ Is4 b v w
theorem Is4.keep {b : Nat} {v : Int × Int × Int × Int} {w w' : World} (h : Below w.heap.size w w') (hr : Is4 b v w) : Is4 b v w' := (h.block b (Array.getElem?_eq_some_iff.1 hr).1).trans hr
theorem Ptr4.keep {n A : Nat} {a a' : Act} {w w' : World} (h : Ptr4 n A a w) (hb : Below w.heap.size w w') (ha : a'.tmps[A]? = a.tmps[A]?) : Ptr4 n A a' w' := by
  obtain ⟨b, h1, h2, h3⟩ := h
  exact ⟨b, ha.trans h1, h2, Row4.keep hb h3⟩
theorem Got4.keep {n A : Nat} {v : Int × Int × Int × Int} {a a' : Act} {w w' : World} (h : Got4 n A v a w) (hb : Below w.heap.size w w') (ha : a'.tmps[A]? = a.tmps[A]?) : Got4 n A v a' w' := by
  obtain ⟨b, h1, h2, h3⟩ := h
  exact ⟨b, ha.trans h1, h2, Is4.keep hb h3⟩
/-- The frame: what the region does not write, and the two pointers. -/
def Base2 (w0 : World) (T : Array Value) (ds : List Nat) (A B : Nat) (a : Act) (w : World) : Prop :=
  Below w0.heap.size w0 w ∧ a.tmps.size = T.size ∧ a.defers = [] ∧ (∀ k, k ∉ ds → a.tmps[k]? = T[k]?) ∧
  (∀ b, a.tmps[A]? = some (.pointer (some ⟨b, 0, none⟩)) → b < w.heap.size ∧ ∀ b', a.tmps[B]? = some (.pointer (some ⟨b', 0, none⟩)) → b ≠ b') ∧
  (∀ b, a.tmps[B]? = some (.pointer (some ⟨b, 0, none⟩)) → b < w.heap.size)
theorem Base2.grow {w0 : World} {T : Array Value} {ds : List Nat} {A B d : Nat} {a : Act} {w w' : World} {v : Value} (h : Base2 w0 T ds A B a w) (hb : Below w.heap.size w w') (hd : d ∈ ds) (hA : d ≠ A) (hB : d ≠ B) : Base2 w0 T ds A B (a.put (some d) v) w' := by
  obtain ⟨h1, h2, h3, h4, h5, h6⟩ := h
  have hs := hb.size
  refine ⟨Below.onto hb h1, put_size.trans h2, h3, fun k hk => ?_, fun b hba => ?_, fun b hbb => ?_⟩
  · rw [put_off (fun e : k = d => hk (by rw [e]; exact hd))]
    exact h4 k hk
  · rw [put_off (Ne.symm hA)] at hba
    refine ⟨by have := (h5 b hba).1; omega, fun b' hb' => ?_⟩
    rw [put_off (Ne.symm hB)] at hb'
    exact (h5 b hba).2 b' hb'
  · rw [put_off (Ne.symm hB)] at hbb
    have := h6 b hbb
    omega
/-- Behind an alloc into A. -/
theorem Base2.allocA {w0 : World} {T : Array Value} {ds : List Nat} {A B : Nat} {a : Act} {w : World} {o : Obj} (h : Base2 w0 T ds A B a w) (hA : A ∈ ds) (hs : A < T.size) (hAB : A ≠ B) : Base2 w0 T ds A B (a.put (some A) (.pointer (some ⟨w.heap.size, 0, none⟩))) (w.alloc o) := by
  obtain ⟨h1, h2, h3, h4, h5, h6⟩ := h
  have hb : Below w.heap.size w (w.alloc o) := (Below.refl _ _).alloc (Nat.le_refl _) _
  refine ⟨Below.onto hb h1, put_size.trans h2, h3, fun k hk => ?_, fun b hba => ?_, fun b hbb => ?_⟩
  · rw [put_off (fun e : k = A => hk (by rw [e]; exact hA))]
    exact h4 k hk
  · rw [put_at (by omega)] at hba
    cases hba
    refine ⟨by simp, fun b' hb' => ?_⟩
    rw [put_off (Ne.symm hAB)] at hb'
    have := h6 b' hb'
    omega
  · rw [put_off (Ne.symm hAB)] at hbb
    have := h6 b hbb
    simp
    omega
/-- Behind an alloc into B. -/
theorem Base2.allocB {w0 : World} {T : Array Value} {ds : List Nat} {A B : Nat} {a : Act} {w : World} {o : Obj} (h : Base2 w0 T ds A B a w) (hB : B ∈ ds) (hs : B < T.size) (hAB : A ≠ B) : Base2 w0 T ds A B (a.put (some B) (.pointer (some ⟨w.heap.size, 0, none⟩))) (w.alloc o) := by
  obtain ⟨h1, h2, h3, h4, h5, h6⟩ := h
  have hb : Below w.heap.size w (w.alloc o) := (Below.refl _ _).alloc (Nat.le_refl _) _
  refine ⟨Below.onto hb h1, put_size.trans h2, h3, fun k hk => ?_, fun b hba => ?_, fun b hbb => ?_⟩
  · rw [put_off (fun e : k = B => hk (by rw [e]; exact hB))]
    exact h4 k hk
  · rw [put_off hAB] at hba
    have h7 := (h5 b hba).1
    refine ⟨by simp; omega, fun b' hb' => ?_⟩
    rw [put_at (by omega)] at hb'
    cases hb'
    omega
  · rw [put_at (by omega)] at hbb
    cases hbb
    simp
/-- Behind a store. -/
theorem Base2.stored {w0 : World} {T : Array Value} {ds : List Nat} {A B : Nat} {a : Act} {w w' : World} (h : Base2 w0 T ds A B a w) (hb : Below w0.heap.size w0 w') (hs : w'.heap.size = w.heap.size) : Base2 w0 T ds A B a w' := by
  obtain ⟨h1, h2, h3, h4, h5, h6⟩ := h
  exact ⟨hb, h2, h3, h4, fun b hba => ⟨by rw [hs]; exact (h5 b hba).1, (h5 b hba).2⟩, fun b hbb => by rw [hs]; exact h6 b hbb⟩
/-- The fact of a fresh alloc. -/
theorem Ptr4.new {n A : Nat} {a : Act} {w : World} (hs : A < a.tmps.size) (hn : n ≤ w.heap.size) : Ptr4 n A (a.put (some A) (.pointer (some ⟨w.heap.size, 0, none⟩))) (w.alloc (.cells #[.int .i64 0, .int .i64 0, .int .i64 0, .int .i64 0] 30)) :=
  ⟨w.heap.size, put_at hs, hn, ⟨_, rfl, heap_alloc_new w _⟩⟩
/-- Facts about the other block behind a store. -/
theorem Ptr4.aside {n A b : Nat} {a : Act} {w w' : World} (h : Ptr4 n A a w) (hne : ∀ b', a.tmps[A]? = some (.pointer (some ⟨b', 0, none⟩)) → b' ≠ b) (hk : ∀ k, k ≠ b → w'.heap[k]? = w.heap[k]?) : Ptr4 n A a w' := by
  obtain ⟨b', h1, h2, C, h3, h4⟩ := h
  exact ⟨b', h1, h2, C, h3, (hk b' (hne b' h1)).trans h4⟩
theorem Got4.aside {n A b : Nat} {v : Int × Int × Int × Int} {a : Act} {w w' : World} (h : Got4 n A v a w) (hne : ∀ b', a.tmps[A]? = some (.pointer (some ⟨b', 0, none⟩)) → b' ≠ b) (hk : ∀ k, k ≠ b → w'.heap[k]? = w.heap[k]?) : Got4 n A v a w' := by
  obtain ⟨b', h1, h2, h3⟩ := h
  exact ⟨b', h1, h2, (hk b' (hne b' h1)).trans h3⟩
end Go.Proofs.Ytnkbbobdhcloeaa
