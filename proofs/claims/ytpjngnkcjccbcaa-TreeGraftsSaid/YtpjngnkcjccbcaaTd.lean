/- Boxes in a list: where each stands, by depths. -/
import Derived.Test.YtpjngnkcjccbcaaBx
namespace Go.Proofs.Ytpjngnkcjccbcaa
set_option linter.unusedSimpArgs false
set_option linter.unusedVariables false
open Go.RowKit
theorem ret_b {a b : Bool} (h : a = b) : Ending.returned (.bool a) = .returned (.bool b) := by rw [h]
def bx0 : Bx := ⟨0, 0, 0, 0, 0, 0, 0, 0, 0, 0, 0, 0, 0, 0⟩
def at_ (L : List Bx) (i : Nat) : Bx := L.getD i bx0
def dep (L : List Bx) (i : Nat) : Int := (at_ L i).d
def knd (L : List Bx) (i : Nat) : Int := (at_ L i).k
/-- The last place ahead of one where a box of a depth stands; -1: there is none. -/
def parUp (L : List Bx) (t : Int) : Nat → Int
  | 0 => -1
  | k + 1 => if dep L k = t then (k : Int) else parUp L t k
def parentS (L : List Bx) (i : Nat) : Int := parUp L (dep L i - 1) i
/-- The first place from one on where a box is no deeper than a depth. -/
def endUp (L : List Bx) (t : Int) (k : Nat) : Nat := if h : k < L.length ∧ t < dep L k then endUp L t (k + 1) else k
  termination_by L.length - k
def endS (L : List Bx) (i : Nat) : Nat := endUp L (dep L i) (i + 1)
theorem below_drewN {B : Nat} {a w : World} (h : Below B a w) (n : Nat) : Below B a (w.drewN n) := ⟨h.os, h.tape, h.output, h.size, h.block⟩
/-- Boxes lie in a block, from a cell on. -/
def Bxs (w : World) (B off : Nat) (L : List Bx) : Prop := ∀ k, k < L.length →
  (w.cell? ⟨B, off + k * 14, none⟩ = some (.int .i64 (at_ L k).d) ∧ w.cell? ⟨B, off + k * 14 + 1, none⟩ = some (.int .i64 (at_ L k).k) ∧ w.cell? ⟨B, off + k * 14 + 2, none⟩ = some (.int .i64 (at_ L k).s) ∧ w.cell? ⟨B, off + k * 14 + 3, none⟩ = some (.int .i64 (at_ L k).c)) ∧
  (w.cell? ⟨B, off + k * 14 + 4, none⟩ = some (.int .i64 (at_ L k).w) ∧ w.cell? ⟨B, off + k * 14 + 5, none⟩ = some (.int .i64 (at_ L k).h)) ∧
  (w.cell? ⟨B, off + k * 14 + 6, none⟩ = some (.int .i64 (at_ L k).m0) ∧ w.cell? ⟨B, off + k * 14 + 7, none⟩ = some (.int .i64 (at_ L k).m1) ∧ w.cell? ⟨B, off + k * 14 + 8, none⟩ = some (.int .i64 (at_ L k).m2) ∧ w.cell? ⟨B, off + k * 14 + 9, none⟩ = some (.int .i64 (at_ L k).m3)) ∧
  (w.cell? ⟨B, off + k * 14 + 10, none⟩ = some (.int .i64 (at_ L k).e0) ∧ w.cell? ⟨B, off + k * 14 + 11, none⟩ = some (.int .i64 (at_ L k).e1) ∧ w.cell? ⟨B, off + k * 14 + 12, none⟩ = some (.int .i64 (at_ L k).e2) ∧ w.cell? ⟨B, off + k * 14 + 13, none⟩ = some (.int .i64 (at_ L k).e3))
theorem Bxs.keep {w w' : World} {B off : Nat} {L : List Bx} (h : Bxs w B off L) (hk : ∀ o, w'.cell? ⟨B, o, none⟩ = w.cell? ⟨B, o, none⟩) : Bxs w' B off L := by
  intro k hlt
  simp only [hk]
  exact h k hlt
theorem Bxs.below {w w' : World} {B off n : Nat} {L : List Bx} (h : Bxs w B off L) (hb : Below n w w') (hB : B < n) : Bxs w' B off L := h.keep fun _ => hb.cell (p := ⟨B, _, none⟩) hB
theorem Bxs.lt {w : World} {B off : Nat} {L : List Bx} (h : Bxs w B off L) (hL : 0 < L.length) : B < w.heap.size := World.block_lt_of_cell? w ⟨B, off + 0 * 14, none⟩ (h 0 hL).1.1
end Go.Proofs.Ytpjngnkcjccbcaa
