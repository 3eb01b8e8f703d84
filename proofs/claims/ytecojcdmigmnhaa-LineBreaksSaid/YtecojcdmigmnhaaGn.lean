/- Rows of structs, one behind the other, as lists of cells; rows of the call's own, written into; small words on worlds. -/
import Derived.Test.YtecojcdmigmnhaaLs
import Derived.Lib.Hide
namespace Go.Proofs.Ytecojcdmigmnhaa
set_option linter.unusedSimpArgs false
set_option linter.unusedVariables false
open Go.RowKit
def flat {α : Type} (f : α → List Value) (l : List α) : List Value := (l.map f).flatten
section
variable {α : Type} {f : α → List Value} {n : Nat}
theorem flat_len (hf : ∀ a, (f a).length = n) (l : List α) : (flat f l).length = l.length * n := by
  induction l with
  | nil => simp [flat]
  | cons a l ih =>
    have : (flat f (a :: l)).length = (f a).length + (flat f l).length := by simp [flat]
    rw [this, hf, ih, List.length_cons, Nat.add_mul]
    omega
theorem flat_snoc (l : List α) (a : α) : flat f (l ++ [a]) = flat f l ++ f a := by simp [flat]
theorem flat_get (hf : ∀ a, (f a).length = n) (l : List α) (k j : Nat) (hk : k < l.length) (hj : j < n) : (flat f l)[k * n + j]? = (f l[k])[j]? := by
  induction l generalizing k with
  | nil => simp at hk
  | cons a l ih =>
    have e : flat f (a :: l) = f a ++ flat f l := by simp [flat]
    rw [e]
    cases k with
    | zero =>
      rw [Nat.zero_mul, Nat.zero_add, List.getElem?_append_left (by rw [hf]; exact hj)]
      rfl
    | succ k =>
      rw [List.getElem?_append_right (by rw [hf, Nat.add_mul]; omega), hf, show (k + 1) * n + j - n = k * n + j from by rw [Nat.add_mul]; omega]
      rw [ih k (by simpa using hk)]
      rfl
theorem flat_set (hf : ∀ a, (f a).length = n) (l : List α) (k j : Nat) (hk : k < l.length) (hj : j < n) (v : Value) (b : α) (hb : f b = (f l[k]).set j v) : (flat f l).set (k * n + j) v = flat f (l.set k b) := by
  induction l generalizing k with
  | nil => simp at hk
  | cons a l ih =>
    have e : ∀ (a : α) (l : List α), flat f (a :: l) = f a ++ flat f l := fun a l => by simp [flat]
    cases k with
    | zero =>
      rw [Nat.zero_mul, Nat.zero_add, List.set_cons_zero, e, e, hb, List.set_append_left _ _ (by rw [hf]; exact hj)]
      rfl
    | succ k =>
      rw [List.set_cons_succ, e, e, List.set_append_right _ _ (by rw [hf, Nat.add_mul]; omega), hf, show (k + 1) * n + j - n = k * n + j from by rw [Nat.add_mul]; omega]
      rw [ih k (by simpa using hk) hb]
end
theorem grown_trans {a b c : World} {row : Option Nat} (h : a.grownBy b row) (h' : b.grownBy c row) : a.grownBy c row :=
  ⟨h'.os.trans h.os, h'.tape.trans h.tape, h'.output.trans h.output, Nat.le_trans h.size h'.size, fun k hk hne => (h'.block k (Nat.lt_of_lt_of_le hk h.size) hne).trans (h.block k hk hne)⟩
theorem own_storedN {base size : Nat} {e : TypeId} {g n cap : Nat} : ∀ (vs : List Value) (o : Nat) (w : World) (xs : List Value), w.ownsRow base e size (.slice (some ⟨g, 0, none⟩) n cap) n xs → o + vs.length ≤ xs.length →
    (w.setCells g o vs).ownsRow base e size (.slice (some ⟨g, 0, none⟩) n cap) n (xs.take o ++ vs ++ xs.drop (o + vs.length)) ∧ w.grownBy (w.setCells g o vs) (some g)
  | [], o, w, xs, h, _ => ⟨by simp only [List.append_nil, List.length_nil, Nat.add_zero, List.take_append_drop]; exact h, ⟨rfl, rfl, rfl, Nat.le_refl _, fun _ _ _ => rfl⟩⟩
  | v :: r, o, w, xs, h, hl => by
    obtain ⟨h1, h2⟩ := h.stored o v
    simp only [List.length_cons] at hl
    obtain ⟨h3, h4⟩ := own_storedN r (o + 1) _ _ h1 (by rw [List.length_set]; omega)
    refine ⟨?_, grown_trans h2 h4⟩
    have e1 : (xs.set o v).take (o + 1) = xs.take o ++ [v] := by
      rw [List.take_succ_eq_append_getElem (by rw [List.length_set]; omega), List.getElem_set_self, List.take_set_of_le (Nat.le_refl _)]
    have e2 : (xs.set o v).drop (o + 1 + r.length) = xs.drop (o + (v :: r).length) := by
      rw [List.drop_set_of_lt (by omega), List.length_cons, show o + 1 + r.length = o + (r.length + 1) by omega]
    rw [e1, e2, List.append_assoc (xs.take o), List.singleton_append] at h3
    exact h3
theorem own_form {w : World} {base g' n : Nat} {e : TypeId} {v : Value} {size : Nat} {xs : List Value} (h : w.ownsRow base e size v n xs) (hn : 0 < n) (_ : g' = 0) : ∃ g cap, v = .slice (some ⟨g, 0, none⟩) n cap ∧ n ≤ cap ∧ base ≤ g ∧ g < w.heap.size := by
  rcases h.2 with ⟨_, h0⟩ | ⟨g, cap, cur, e, hg, hh, hc, _⟩
  · omega
  · exact ⟨g, cap, e, hc, hg, (Array.getElem?_eq_some_iff.1 hh).1⟩
/-- A whole struct is stored into the middle of a block. -/
theorem store_mid {P : Program} {ops : Array Oper} {rest : List Oper} {a : Act} {w : World} {Q : Exit → Act → World → Prop} {dst : Option Tmp} {ty0 : TypeId} {pos : String} {after : Array Edge} (ty : TypeId) (x y : Operand) (b o : Nat) (cs : List Value)
    (hx : a.eval x = .pointer (some ⟨b, o, none⟩)) (hy : a.eval y = .agg cs.toArray) (ht : w.there b o cs.length) (hi : (P.info? ty).map (·.size) = some cs.length) (h1 : ∀ v ∈ cs, v.oneCell' = true)
    (h : wpList P ops Q rest (a.put dst undef) (w.setCells b o cs)) : wpList P ops Q (⟨dst, .store ty x y, ty0, pos, after, none⟩ :: rest) a w :=
  wpList_store_mid rfl ty x y rfl b o cs.toArray hx hy (by simpa using ht) (by simpa using hi) (all_oneCell_toArray h1) (by simpa using h)
theorem Below.onto {W0 W W' : World} (h : Below W.heap.size W W') (h0 : Below W0.heap.size W0 W) : Below W0.heap.size W0 W' := h0.trans (h.mono h0.size)
theorem own_mono {w : World} {base base' size n : Nat} {e : TypeId} {v : Value} {xs : List Value} (h : w.ownsRow base e size v n xs) (hb : base' ≤ base) : w.ownsRow base' e size v n xs := by
  obtain ⟨h1, h2⟩ := h
  refine ⟨h1, ?_⟩
  rcases h2 with h2 | ⟨g, cap, cur, e, hg, r⟩
  · exact .inl h2
  · exact .inr ⟨g, cap, cur, e, by omega, r⟩
end Go.Proofs.Ytecojcdmigmnhaa
