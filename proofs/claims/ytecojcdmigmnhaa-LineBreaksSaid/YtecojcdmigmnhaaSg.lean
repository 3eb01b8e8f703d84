/- Slices of values of some cells each (structs, single cells), read and built: one text for all element types. -/
import Derived.Test.YtecojcdmigmnhaaGn
import Derived.Maps.AppendAt
namespace Go.Proofs.Ytecojcdmigmnhaa
set_option linter.unusedSimpArgs false
set_option linter.unusedVariables false
open Go.RowKit
section
variable {α : Type} {C : α → List Value} {n : Nat}
/-- v is a slice that reads as L. -/
def IsSl (C : α → List Value) (n : Nat) (w : World) (v : Value) (L : List α) : Prop := ∃ (A : Option Addr) (cap : Nat), v = .slice A L.length cap ∧ L.length ≤ cap ∧
  Hid (0 < L.length → ∃ g o, A = some ⟨g, o, none⟩ ∧ g < w.heap.size ∧ ∀ k (h : k < L.length), w.rangeAt g (o + k * n) (C L[k]))
theorem IsSl.below {w w' : World} {v : Value} {L : List α} {m : Nat} (h : IsSl C n w v L) (hb : Below m w w') (hm : w.heap.size ≤ m) : IsSl C n w' v L := by
  obtain ⟨A, cap, rfl, hc, hA⟩ := h
  refine ⟨A, cap, rfl, hc, Lib.hid fun h0 => ?_⟩
  obtain ⟨g, o, rfl, hg, hs⟩ := hA.out h0
  refine ⟨g, o, rfl, by have := hb.size; omega, fun k hk j v hv => ?_⟩
  exact (hb.cell (p := ⟨g, o + k * n + j, none⟩) (by show g < m; omega)).trans (hs k hk j v hv)
theorem IsSl.nil (w : World) : IsSl C n w (.slice none 0 0) [] := ⟨none, 0, rfl, Nat.le_refl _, Lib.hid fun h => absurd h (by simp)⟩
theorem IsSl.none {w : World} {v : Value} (cap : Nat) (A : Option Addr) (h : v = .slice A 0 cap) : IsSl C n w v [] := ⟨A, cap, h, Nat.zero_le _, Lib.hid fun h => absurd h (by simp)⟩
/-- A slice of the call's own: all elements of the block it was given. -/
def OwnSl (C : α → List Value) (n : Nat) (e : TypeId) (w : World) (base : Nat) (v : Value) (L : List α) : Prop := w.ownsRow base e n v L.length (flat C L)
theorem OwnSl.nil (hn : 0 < n ∨ n = 0) (e : TypeId) (w : World) (base : Nat) : OwnSl C n e w base (.slice none 0 0) [] := ⟨by simp [flat], .inl ⟨rfl, rfl⟩⟩
theorem OwnSl.below {e : TypeId} {w w' : World} {base : Nat} {v : Value} {L : List α} (h : OwnSl C n e w base v L) (hb : Below w.heap.size w w') : OwnSl C n e w' base v L := own_below h hb
theorem OwnSl.kept {e : TypeId} {w w' : World} {base : Nat} {v : Value} {L : List α} {row : Option Nat} (h : OwnSl C n e w base v L) (hg : w.grownBy w' row) (hne : v.ownBlock = Option.none ∨ v.ownBlock ≠ row) : OwnSl C n e w' base v L := World.ownsRow.kept h hg hne
theorem OwnSl.is {e : TypeId} {w : World} {base : Nat} {v : Value} {L : List α} (hC : ∀ a, (C a).length = n) (hn : 0 < n) (h : OwnSl C n e w base v L) : IsSl C n w v L := by
  rcases Nat.eq_zero_or_pos L.length with h0 | h0
  · have hL : L = [] := List.eq_nil_of_length_eq_zero h0
    subst hL
    rcases h.2 with ⟨rfl, _⟩ | ⟨g, cap, cur, rfl, _, _, hc, _⟩
    · exact .nil w
    · exact .none cap _ rfl
  · obtain ⟨g, cap, rfl, hc, hg, hgl⟩ := own_form h h0 rfl
    refine ⟨_, cap, rfl, hc, Lib.hid fun _ => ⟨g, 0, rfl, hgl, fun k hk j v hv => ?_⟩⟩
    have hj : j < n := by rw [← hC L[k]]; exact (List.getElem?_eq_some_iff.1 hv).1
    have hkn : k * n + j < L.length * n := by
      have : (k + 1) * n ≤ L.length * n := Nat.mul_le_mul_right n hk
      rw [Nat.add_mul] at this
      omega
    rw [Nat.zero_add, h.cellAt _ hkn, flat_get hC L k j hk hj]
    exact hv
theorem OwnSl.from_ {e : TypeId} {w : World} {base k : Nat} {v : Value} {L : List α} (h : OwnSl C n e w base v L) (hk : v.ownBlock = some k) : base ≤ k := by
  rcases h.2 with ⟨rfl, _⟩ | ⟨g, cap, cur, rfl, hg, _⟩
  · simp [Value.ownBlock] at hk
  · simp [Value.ownBlock] at hk
    omega
theorem OwnSl.lt {e : TypeId} {w : World} {base k : Nat} {v : Value} {L : List α} (h : OwnSl C n e w base v L) (hk : v.ownBlock = some k) : k < w.heap.size := by
  rcases h.2 with ⟨rfl, _⟩ | ⟨g, cap, cur, rfl, hg, hh, _⟩
  · simp [Value.ownBlock] at hk
  · simp [Value.ownBlock] at hk
    subst hk
    exact (Array.getElem?_eq_some_iff.1 hh).1
theorem OwnSl.form {e : TypeId} {w : World} {base : Nat} {v : Value} {L : List α} (h : OwnSl C n e w base v L) : ∃ ad cap, v = .slice ad L.length cap ∧ L.length ≤ cap := by
  rcases h.2 with ⟨rfl, h0⟩ | ⟨g, cap, cur, rfl, _, _, hc, _⟩
  · exact ⟨Option.none, 0, by rw [h0], by omega⟩
  · exact ⟨_, cap, rfl, hc⟩
end
/-- Facts of an element type. -/
structure Elem (P : Program) (T e : TypeId) (n bytes : Nat) : Prop where
  under : P.underlying T = some (.slice e)
  info : (P.info? e).map (fun i => (i.zero.map (·.cells.size), i.size, i.bytes)) = some (some n, n, bytes)
  pos : 0 < n
  le : bytes ≤ 1000
theorem Elem.parts {P : Program} {T e : TypeId} {n bytes : Nat} (h : Elem P T e n bytes) : ∃ i z, P.info? e = some i ∧ i.zero = some z ∧ z.cells.size = n ∧ i.size = n ∧ i.bytes = bytes := by
  have h1 := h.info
  cases hi : P.info? e with
  | none => rw [hi] at h1; simp at h1
  | some i =>
    rw [hi] at h1
    simp at h1
    obtain ⟨⟨z, hz, hc⟩, h3, h4⟩ := h1
    exact ⟨i, z, rfl, hz, hc, h3, h4⟩
/-- append of elements that lie one behind the other. -/
theorem sl_appends {α : Type} {C : α → List Value} {n : Nat} {P : Program} (w : World) {ops : Array Oper} {rest : List Oper} {o : Oper} {a : Act} {Q : Exit → Act → World → Prop} {T e : TypeId} {bytes : Nat} (hE : Elem P T e n bytes) (hC : ∀ a, (C a).length = n) (h1 : ∀ a, ∀ u ∈ C a, u.oneCell' = true) (hgd : o.guard = none) (s x : Operand)
    (ho : o.op = .call { callee := .builtin .append, args := #[s, x], argTypes := #[T, T] }) (base : Nat) (v : Value) (L : List α) (hs : a.eval s = v) (hown : OwnSl C n e w base v L) (Y : List α) (g o1 m c : Nat) (hm : m = Y.length) (hx : a.eval x = .slice (some ⟨g, o1, none⟩) m c) (hc : w.rangeAt g o1 (flat C Y))
    (hl : L.length + Y.length ≤ 100000000) (hbase : base ≤ w.heap.size)
    (h : ∀ v' w', OwnSl C n e w' base v' (L ++ Y) → w.grownBy w' v.ownBlock → (v'.ownBlock = v.ownBlock ∨ v'.ownBlock = some w.heap.size) → wpList P ops Q rest (a.put o.dst v') w') :
    wpList P ops Q (o :: rest) a w := by
  obtain ⟨i, z, hi, hz, hzs, hsz, hby⟩ := hE.parts
  have hb := hE.le
  subst hm
  refine wpList_append_own_at w hgd s x T ho base e i z n bytes hE.under hi hz hsz hby hzs hE.pos v L.length (flat C L) hs hown ⟨g, o1, none⟩ Y.length c (flat C Y) hx (flat_len hC Y) ?_ ?_ (by unfold maxLen; omega) ?_ hbase ?_
  · intro j u hu
    have := hc j u hu
    rw [Addr.add_mid]
    exact this
  · intro u hu
    unfold flat at hu
    obtain ⟨l, hl, hu⟩ := List.mem_flatten.1 hu
    obtain ⟨y, _, rfl⟩ := List.mem_map.1 hl
    exact h1 y u hu
  · have : (L.length + Y.length) * bytes ≤ 100000000 * 1000 := Nat.mul_le_mul hl hb
    omega
  · intro v' w' g1 g2 g3 g4
    refine h v' w' ?_ g2 g4
    unfold OwnSl
    rw [show flat C (L ++ Y) = flat C L ++ flat C Y by simp [flat], List.length_append]
    exact g1
/-- append of one element, which lies in a block of its own. -/
theorem sl_append {α : Type} {C : α → List Value} {n : Nat} {P : Program} (w : World) {ops : Array Oper} {rest : List Oper} {o : Oper} {a : Act} {Q : Exit → Act → World → Prop} {T e : TypeId} {bytes : Nat} (hE : Elem P T e n bytes) (hC : ∀ a, (C a).length = n) (h1 : ∀ a, ∀ u ∈ C a, u.oneCell' = true) (hgd : o.guard = none) (s x : Operand)
    (ho : o.op = .call { callee := .builtin .append, args := #[s, x], argTypes := #[T, T] }) (base : Nat) (v : Value) (L : List α) (hs : a.eval s = v) (hown : OwnSl C n e w base v L) (y : α) (g c : Nat) (hx : a.eval x = .slice (some ⟨g, 0, none⟩) 1 c) (hc : w.rangeAt g 0 (C y))
    (hl : L.length < 100000000) (hbase : base ≤ w.heap.size)
    (h : ∀ v' w', OwnSl C n e w' base v' (L ++ [y]) → w.grownBy w' v.ownBlock → (v'.ownBlock = v.ownBlock ∨ v'.ownBlock = some w.heap.size) → wpList P ops Q rest (a.put o.dst v') w') :
    wpList P ops Q (o :: rest) a w :=
  sl_appends w hE hC h1 hgd s x ho base v L hs hown [y] g 0 1 c rfl hx (by simpa [flat] using hc) (by simp; omega) hbase h
end Go.Proofs.Ytecojcdmigmnhaa
