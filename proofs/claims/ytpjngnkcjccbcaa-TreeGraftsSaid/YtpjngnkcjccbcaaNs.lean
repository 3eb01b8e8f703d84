/- What the tree of boxes that may be one holds at a place. -/
import Derived.Test.YtpjngnkcjccbcaaPc
namespace Go.Proofs.Ytpjngnkcjccbcaa
set_option linter.unusedSimpArgs false
set_option linter.unusedVariables false
open Go.RowKit
theorem nd_eq (L : List Bx) (i : Nat) (h : i < L.length) : nodeI (NS L L.length) i = ⟨at_ L i, parentS L i, (endS L i : Nat), ctxS L i, kidsS L i⟩ := by
  rw [nodeI_NS L _ _ h]
  have hle := endS_le L i h
  unfold nodeK kidsS
  rw [Nat.min_eq_left hle]
theorem nd_ch (L : List Bx) (i : Nat) (h : i < L.length) : (nodeI (NS L L.length) i).ch = kidsS L i := by rw [nd_eq L i h]
theorem nd_en (L : List Bx) (i : Nat) (h : i < L.length) : (nodeI (NS L L.length) i).en = (endS L i : Nat) := by rw [nd_eq L i h]
theorem nd_par (L : List Bx) (i : Nat) (h : i < L.length) : (nodeI (NS L L.length) i).par = parentS L i := by rw [nd_eq L i h]
theorem nd_ctx (L : List Bx) (i : Nat) (h : i < L.length) : (nodeI (NS L L.length) i).ctx = ctxS L i := by rw [nd_eq L i h]
theorem nd_b (L : List Bx) (i : Nat) (h : i < L.length) : (nodeI (NS L L.length) i).b = at_ L i := by rw [nd_eq L i h]
theorem nd_out (L : List Bx) (i : Int) (h : i < 0 ∨ (L.length : Int) ≤ i) : nodeI (NS L L.length) i = nd0 := nodeI_out _ _ (by rw [NS_len]; exact h)
end Go.Proofs.Ytpjngnkcjccbcaa
