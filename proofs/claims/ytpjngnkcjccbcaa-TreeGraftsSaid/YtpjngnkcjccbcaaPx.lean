/- The first boxes of a list of boxes: plain. -/
import Derived.Test.YtpjngnkcjccbcaaTq
namespace Go.Proofs.Ytpjngnkcjccbcaa
set_option linter.unusedSimpArgs false
set_option linter.unusedVariables false
open Go.RowKit
theorem at_take (L : List Bx) (n i : Nat) (h : i < n) : at_ (L.take n) i = at_ L i := by
  unfold at_
  simp [List.getD_eq_getElem?_getD, List.getElem?_take, h]
theorem dep_take (L : List Bx) (n i : Nat) (h : i < n) : dep (L.take n) i = dep L i := by unfold dep; rw [at_take L n i h]
theorem knd_take (L : List Bx) (n i : Nat) (h : i < n) : knd (L.take n) i = knd L i := by unfold knd; rw [at_take L n i h]
theorem parUp_take (L : List Bx) (n : Nat) (t : Int) (k : Nat) (h : k ≤ n) : parUp (L.take n) t k = parUp L t k := by
  induction k with
  | zero => rfl
  | succ k ih => unfold parUp; rw [dep_take L n k (by omega), ih (by omega)]
theorem parentS_take (L : List Bx) (n i : Nat) (h : i < n) : parentS (L.take n) i = parentS L i := by
  unfold parentS
  rw [dep_take L n i h, parUp_take L n _ i (by omega)]
theorem ctxUp_take (L : List Bx) (n : Nat) (p : Int) (h : p < n) : ctxUp (L.take n) p = ctxUp L p := by
  rw [ctxUp_eq, ctxUp_eq L p]
  by_cases h0 : 0 < p
  · rw [knd_take L n p.toNat (by omega), parentS_take L n p.toNat (by omega)]
    have hl := parentS_lt L p.toNat
    rw [ctxUp_take L n (parentS L p.toNat) (by omega)]
  · rw [if_neg (fun h => h0 h.1), if_neg (fun h => h0 h.1)]
  termination_by p.toNat
  decreasing_by omega
theorem ctxS_take (L : List Bx) (n i : Nat) (h : i < n) : ctxS (L.take n) i = ctxS L i := by
  have hl := parentS_lt L i
  unfold ctxS
  rw [parentS_take L n i h, ctxUp_take L n _ (by omega)]
theorem badS_take (L : List Bx) (n i : Nat) (h : i < n) : badS (L.take n) i = badS L i := by
  have hl := parentS_lt L i
  unfold badS
  rw [at_take L n i h, dep_take L n i h, knd_take L n i h, parentS_take L n i h, dep_take L n (i - 1) (by omega)]
  by_cases h0 : i = 0
  · rw [if_pos h0, if_pos h0]
  · rw [knd_take L n (parentS L i).toNat (by omega)]
theorem good_take {L : List Bx} {n : Nat} (h : Good L n) : Good (L.take n) n := fun j hj => by rw [badS_take L n j hj]; exact h j hj
theorem endUp_take (L : List Bx) (n : Nat) (t : Int) (k : Nat) (hk : k ≤ n) (hn : n ≤ L.length) : endUp (L.take n) t k = min (endUp L t k) n := by
  have hlen : (L.take n).length = n := by rw [List.length_take]; omega
  rw [endUp_eq, endUp_eq L t k, hlen]
  by_cases h : k < n
  · rw [dep_take L n k h]
    by_cases h2 : t < dep L k
    · rw [if_pos ⟨h, h2⟩, if_pos ⟨by omega, h2⟩]
      exact endUp_take L n t (k + 1) (by omega) hn
    · rw [if_neg (fun h => h2 h.2), if_neg (fun h => h2 h.2)]
      omega
  · rw [if_neg (fun hh => h hh.1)]
    have : k = n := by omega
    subst this
    split
    · have := endUp_ge L t (k + 1); omega
    · omega
  termination_by n - k
theorem endS_take (L : List Bx) (n i : Nat) (h : i < n) (hn : n ≤ L.length) : endS (L.take n) i = min (endS L i) n := by
  unfold endS
  rw [dep_take L n i h, endUp_take L n _ (i + 1) (by omega) hn]
/-- Nothing is wrong with boxes just if it is with none of them. -/
theorem chkUp_good (L : List Bx) (k : Nat) (h : ∀ j, k ≤ j → j < L.length → badS L j = 0) : chkUp L k = (-1, 0) := by
  rw [chkUp_eq]
  by_cases hk : k < L.length
  · rw [if_pos hk, if_neg (by rw [h k (Nat.le_refl _) hk]; simp)]
    exact chkUp_good L (k + 1) (fun j h1 h2 => h j (by omega) h2)
  · rw [if_neg hk]
  termination_by L.length - k
theorem chkS_good (L : List Bx) (h0 : 0 < L.length) (h : Good L L.length) : chkS L = (-1, 0) := by
  unfold chkS
  rw [if_neg (by omega)]
  exact chkUp_good L 0 fun j _ hj => h j hj
/-- What the tree's nodes are. -/
theorem nodeI_NS (L : List Bx) (k i : Nat) (h : i < k) : nodeI (NS L k) i = nodeK L k i := by
  rw [nodeI_nat]
  unfold nat_
  rw [List.getD_eq_getElem?_getD, List.getElem?_eq_getElem (by rw [NS_len]; exact h), NS_get L k i h]
  rfl
theorem front_par (L : List Bx) (n i : Nat) (h : i < n) (hn : n ≤ L.length) : (nodeI (NS (L.take n) n) i).par = (nodeI (NS L L.length) i).par := by
  rw [nodeI_NS _ _ _ h, nodeI_NS _ _ _ (by omega)]
  exact parentS_take L n i h
theorem front_ctx (L : List Bx) (n i : Nat) (h : i < n) (hn : n ≤ L.length) : (nodeI (NS (L.take n) n) i).ctx = (nodeI (NS L L.length) i).ctx := by
  rw [nodeI_NS _ _ _ h, nodeI_NS _ _ _ (by omega)]
  exact ctxS_take L n i h
theorem front_en (L : List Bx) (n i : Nat) (h : i < n) (hn : n ≤ L.length) : (nodeI (NS (L.take n) n) i).en = min (nodeI (NS L L.length) i).en (n : Int) := by
  rw [nodeI_NS _ _ _ h, nodeI_NS _ _ _ (by omega)]
  show ((min (endS (L.take n) i) n : Nat) : Int) = min ((min (endS L i) L.length : Nat) : Int) n
  rw [endS_take L n i h hn]
  omega
end Go.Proofs.Ytpjngnkcjccbcaa
