/- Slices of boxes of the call's own: cut out of others, written into. -/
import Derived.Test.YtpjngnkcjccbcaaOfs
import Derived.Test.YtpjngnkcjccbcaaOb
namespace Go.Proofs.Ytpjngnkcjccbcaa
set_option linter.unusedSimpArgs false
set_option linter.unusedVariables false
open Go.RowKit
theorem grown_trans {a b c : World} {row : Option Nat} (h : a.grownBy b row) (h' : b.grownBy c row) : a.grownBy c row :=
  ⟨h'.os.trans h.os, h'.tape.trans h.tape, h'.output.trans h.output, Nat.le_trans h.size h'.size, fun k hk hne => (h'.block k (Nat.lt_of_lt_of_le hk h.size) hne).trans (h.block k hk hne)⟩
theorem own_storedN {base size : Nat} {e : TypeId} {g n cap : Nat} : ∀ (vs : List Value) (o : Nat) (w : World) (xs : List Value), w.ownsRow base e size (.slice (some ⟨g, 0, none⟩) n cap) n xs → o + vs.length ≤ xs.length →
    (w.setCells g o vs).ownsRow base e size (.slice (some ⟨g, 0, none⟩) n cap) n (xs.take o ++ vs ++ xs.drop (o + vs.length)) ∧ w.grownBy (w.setCells g o vs) (some g)
  | [], o, w, xs, h, _ => ⟨by simp only [List.append_nil, List.length_nil, Nat.add_zero, List.take_append_drop]; exact h, ⟨rfl, rfl, rfl, Nat.le_refl _, fun _ _ _ => rfl⟩⟩
  | v :: r, o, w, xs, h, hl => by
    obtain ⟨h1, h2⟩ := h.stored o v
    simp only [List.length_cons] at hl
    obtain ⟨h3, h4⟩ := own_storedN r (o + 1) _ _ h1 (by rw [List.length_set]; omega)
    refine ⟨?_, grown_trans h2 h4⟩
    have e1 : (xs.set o v).take (o + 1) = xs.take o ++ [v] := by
      rw [List.take_succ_eq_append_getElem (by rw [List.length_set]; omega), List.getElem_set_self, List.take_set_of_le (Nat.le_refl _)]
    have e2 : (xs.set o v).drop (o + 1 + r.length) = xs.drop (o + (v :: r).length) := by
      rw [List.drop_set_of_lt (by omega), List.length_cons, show o + 1 + r.length = o + (r.length + 1) by omega]
    rw [e1, e2, List.append_assoc (xs.take o), List.singleton_append] at h3
    exact h3
/-- The boxes from a place on. -/
def part_ (L : List Bx) (i m : Nat) : List Bx := (List.range m).map fun k => at_ L (i + k)
theorem part_len (L : List Bx) (i m : Nat) : (part_ L i m).length = m := by simp [part_]
theorem Bxs.news {w : World} {B off : Nat} {L : List Bx} (h : Bxs w B off L) (i m : Nat) (hm : i + m ≤ L.length) : ∀ j u, (flat bxC (part_ L i m))[j]? = some u → w.cell? ((⟨B, off + i * 14, none⟩ : Addr).add j) = some u := by
  intro j u hu
  have hl : (flat bxC (part_ L i m)).length = m * 14 := by rw [flat_len bxC_len, part_len]
  have hj : j < m * 14 := by rw [← hl]; exact (List.getElem?_eq_some_iff.1 hu).1
  have hk : j / 14 < m := by omega
  have hg := flat_get bxC_len (part_ L i m) (j / 14) (j % 14) (by rw [part_len]; exact hk) (by omega)
  rw [show j / 14 * 14 + j % 14 = j by omega, hu] at hg
  have hp : (part_ L i m)[j / 14]'(by rw [part_len]; exact hk) = at_ L (i + j / 14) := by simp [part_]
  rw [hp] at hg
  have hr := h.range (k := i + j / 14) (by omega) (j % 14) u hg.symm
  rw [Addr.add_mid, show off + i * 14 + j = off + (i + j / 14) * 14 + j % 14 by omega]
  exact hr
theorem flat_one (L : List Bx) : ∀ u ∈ flat bxC L, u.oneCell' = true := by
  intro u hu
  unfold flat at hu
  rw [List.mem_flatten] at hu
  obtain ⟨l, hl, hul⟩ := hu
  rw [List.mem_map] at hl
  obtain ⟨b, _, rfl⟩ := hl
  exact bxC_one b u hul
/-- Boxes that were written over, box by box. -/
theorem own_set_box {w : World} {base g cap : Nat} {e : TypeId} {M : List Bx} (h : w.ownsRow base e 14 (.slice (some ⟨g, 0, none⟩) M.length cap) M.length (flat bxC M)) (k : Nat) (hk : k < M.length) (b : Bx) :
    (w.setCells g (k * 14) (bxC b)).ownsRow base e 14 (.slice (some ⟨g, 0, none⟩) M.length cap) M.length (flat bxC (M.set k b)) ∧ w.grownBy (w.setCells g (k * 14) (bxC b)) (some g) := by
  have hl : (flat bxC M).length = M.length * 14 := flat_len bxC_len M
  obtain ⟨h1, h2⟩ := own_storedN (bxC b) (k * 14) w _ h (by rw [hl, bxC_len]; omega)
  refine ⟨?_, h2⟩
  have e0 : ∀ (a b : List Bx), flat bxC (a ++ b) = flat bxC a ++ flat bxC b := fun a b => by simp [flat]
  have eM : M = M.take k ++ (M[k] :: M.drop (k + 1)) := by rw [List.getElem_cons_drop, List.take_append_drop]
  have e1 : flat bxC M = flat bxC (M.take k) ++ (bxC M[k] ++ flat bxC (M.drop (k + 1))) := by
    have ec : ∀ (a : Bx) (l : List Bx), flat bxC (a :: l) = bxC a ++ flat bxC l := fun a l => by simp [flat]
    conv => lhs; rw [eM]
    rw [e0, ec]
  have hk1 : (flat bxC (M.take k)).length = k * 14 := by rw [flat_len bxC_len, List.length_take, Nat.min_eq_left (by omega)]
  have e2 : (flat bxC M).take (k * 14) = flat bxC (M.take k) := by rw [e1, ← hk1, List.take_left]
  have e3 : (flat bxC M).drop (k * 14 + (bxC b).length) = flat bxC (M.drop (k + 1)) := by
    rw [e1, ← List.append_assoc, List.drop_left' (by rw [List.length_append, hk1, bxC_len, bxC_len])]
  have e4 : flat bxC (M.set k b) = flat bxC (M.take k) ++ bxC b ++ flat bxC (M.drop (k + 1)) := by
    rw [List.set_eq_take_append_cons_drop, if_pos hk, e0]
    simp [flat]
  rw [e2, e3, ← e4] at h1
  exact h1
/-- A whole struct is stored into the middle of a block. -/
theorem store_mid {P : Program} {ops : Array Oper} {rest : List Oper} {a : Act} {w : World} {Q : Exit → Act → World → Prop} {dst : Option Tmp} {ty0 : TypeId} {pos : String} {after : Array Edge} (ty : TypeId) (x y : Operand) (b o : Nat) (cs : List Value)
    (hx : a.eval x = .pointer (some ⟨b, o, none⟩)) (hy : a.eval y = .agg cs.toArray) (ht : w.there b o cs.length) (hi : (P.info? ty).map (·.size) = some cs.length) (h1 : ∀ v ∈ cs, v.oneCell' = true)
    (h : wpList P ops Q rest (a.put dst undef) (w.setCells b o cs)) : wpList P ops Q (⟨dst, .store ty x y, ty0, pos, after, none⟩ :: rest) a w :=
  wpList_store_mid rfl ty x y rfl b o cs.toArray hx hy (by simpa using ht) (by simpa using hi) (all_oneCell_toArray h1) (by simpa using h)
end Go.Proofs.Ytpjngnkcjccbcaa
