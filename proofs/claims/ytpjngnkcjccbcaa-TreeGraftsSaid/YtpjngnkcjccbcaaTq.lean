/- A tree, box by box: plain. -/
import Derived.Test.YtpjngnkcjccbcaaTp
import Derived.Test.YtpjngnkcjccbcaaTt
namespace Go.Proofs.Ytpjngnkcjccbcaa
set_option linter.unusedSimpArgs false
set_option linter.unusedVariables false
open Go.RowKit
/-- The boxes in which the next one may stand, by their depths. -/
def pathK (L : List Bx) : Nat → List Nat
  | 0 => []
  | k + 1 => (pathK L k).take (dep L k).toNat ++ [k]
def nodeK (L : List Bx) (k i : Nat) : Nd := ⟨at_ L i, parentS L i, (min (endS L i) k : Nat), ctxS L i, kidsTo L i (min (endS L i) k)⟩
/-- The tree of the first boxes. -/
def NS (L : List Bx) (k : Nat) : List Nd := (List.range k).map (nodeK L k)
theorem NS_len (L : List Bx) (k : Nat) : (NS L k).length = k := by simp [NS]
theorem NS_get (L : List Bx) (k i : Nat) (h : i < k) : (NS L k)[i]'(by rw [NS_len]; exact h) = nodeK L k i := by simp [NS]
theorem good_mono {L : List Bx} {m n : Nat} (h : Good L n) (hm : m ≤ n) : Good L m := fun j hj => h j (by omega)
theorem good_step {L : List Bx} {n k : Nat} (h : Good L n) (hk : k < n) (h0 : 0 < k) : 1 ≤ dep L k ∧ dep L k ≤ dep L (k - 1) + 1 := by
  obtain ⟨h1, h2, _⟩ := bad_step h0 (h k hk)
  have := good_dep h hk
  exact ⟨by omega, h2⟩
theorem good_zero {L : List Bx} {n : Nat} (h : Good L n) (hk : 0 < n) : dep L 0 = 0 := bad_root (h 0 hk)
theorem pathK_facts {L : List Bx} (n : Nat) (h : Good L n) : ∀ k, k ≤ n → (0 < k → (pathK L k).length = (dep L (k - 1)).toNat + 1) ∧ (∀ j (hj : j < (pathK L k).length), (pathK L k)[j] < k ∧ dep L ((pathK L k)[j]) = (j : Int) ∧ ((pathK L k)[j] : Int) = parUp L (j : Int) k) := by
  intro k
  induction k with
  | zero => intro _; exact ⟨fun h => by omega, fun j hj => by simp [pathK] at hj⟩
  | succ k ih =>
    intro hk
    obtain ⟨i1, i2⟩ := ih (by omega)
    have hd := good_dep h (show k < n by omega)
    have hlen : (dep L k).toNat ≤ (pathK L k).length := by
      rcases Nat.eq_zero_or_pos k with h0 | h0
      · subst h0
        have := good_zero h (by omega)
        omega
      · have := good_step h (by omega) h0
        have := i1 h0
        omega
    have hl : (pathK L (k + 1)).length = (dep L k).toNat + 1 := by
      simp only [pathK, List.length_append, List.length_take, List.length_singleton]
      omega
    refine ⟨fun _ => by rw [hl]; simp, fun j hj => ?_⟩
    by_cases hjd : j < (dep L k).toNat
    · have e : (pathK L (k + 1))[j] = (pathK L k)[j]'(by omega) := by
        simp only [pathK]
        rw [List.getElem_append_left (by simp; omega), List.getElem_take]
      rw [e]
      obtain ⟨q1, q2, q3⟩ := i2 j (by omega)
      refine ⟨by omega, q2, ?_⟩
      rw [q3]
      conv => rhs; unfold parUp
      rw [if_neg (by omega)]
    · have hje : j = (dep L k).toNat := by omega
      have e : (pathK L (k + 1))[j] = k := by
        simp only [pathK]
        rw [List.getElem_append_right (by simp; omega)]
        simp
      rw [e]
      refine ⟨by omega, by omega, ?_⟩
      unfold parUp
      rw [if_pos (by omega)]
/-- The box in which the next one stands. -/
theorem pathK_parent {L : List Bx} {n k : Nat} (h : Good L n) (hk : k ≤ n) (h1 : 1 ≤ dep L k) (h2 : dep L k ≤ (pathK L k).length) : ((pathK L k).getD ((dep L k).toNat - 1) 0 : Int) = parentS L k := by
  obtain ⟨_, i2⟩ := pathK_facts n h k hk
  obtain ⟨q1, q2, q3⟩ := i2 ((dep L k).toNat - 1) (by omega)
  have e : (pathK L k).getD ((dep L k).toNat - 1) 0 = (pathK L k)[(dep L k).toNat - 1]'(by omega) := by rw [List.getD_eq_getElem?_getD, List.getElem?_eq_getElem (by omega)]; rfl
  rw [e, q3]
  unfold parentS
  congr 1
  omega
theorem endUp_skip (L : List Bx) (t : Int) (m k : Nat) (hm : m ≤ k) (h : k ≤ endUp L t m) : endUp L t m = endUp L t k := by
  by_cases e : m = k
  · rw [e]
  · rw [endUp_eq] at h ⊢
    by_cases hc : m < L.length ∧ t < dep L m
    · rw [if_pos hc] at h ⊢
      exact endUp_skip L t (m + 1) k (by omega) h
    · rw [if_neg hc] at h
      omega
  termination_by k - m
theorem end_step {L : List Bx} {i k : Nat} (hi : i < k) (hk : k < L.length) (h : k ≤ endS L i) : k + 1 ≤ endS L i ↔ dep L i < dep L k := by
  have e : endS L i = endUp L (dep L i) k := endUp_skip L _ (i + 1) k (by omega) h
  rw [e, endUp_eq]
  by_cases hc : dep L i < dep L k
  · rw [if_pos ⟨hk, hc⟩]
    exact ⟨fun _ => hc, fun _ => endUp_ge L _ (k + 1)⟩
  · rw [if_neg (fun hh => hc hh.2)]
    exact ⟨fun hh => by omega, fun hh => absurd hh hc⟩
theorem pathK_mem {L : List Bx} (n : Nat) (h : Good L n) (hn : n ≤ L.length) : ∀ k, k ≤ n → ∀ i, i ∈ pathK L k ↔ i < k ∧ k ≤ endS L i := by
  intro k
  induction k with
  | zero => intro _ i; simp [pathK]
  | succ k ih =>
    intro hk i
    have ih' := ih (by omega) i
    obtain ⟨i1, i2⟩ := pathK_facts n h k (by omega)
    have hd := good_dep h (show k < n by omega)
    simp only [pathK, List.mem_append, List.mem_singleton]
    constructor
    · rintro (hm | rfl)
      · obtain ⟨j, hj, hje⟩ := List.mem_iff_getElem.1 hm
        rw [List.getElem_take] at hje
        have hj1 : j < (dep L k).toNat := by simp at hj; omega
        have hj2 : j < (pathK L k).length := by simp at hj; omega
        obtain ⟨q1, q2, q3⟩ := i2 j hj2
        rw [hje] at q1 q2
        have hmem : i ∈ pathK L k := by rw [← hje]; exact List.getElem_mem _
        have := (ih'.1 hmem)
        refine ⟨by omega, (end_step this.1 (by omega) this.2).2 (by omega)⟩
      · exact ⟨by omega, endS_gt L i⟩
    · rintro ⟨h1, h2⟩
      by_cases e : i = k
      · exact .inr e
      · left
        have hmem := ih'.2 ⟨by omega, by omega⟩
        obtain ⟨j, hj, hje⟩ := List.mem_iff_getElem.1 hmem
        obtain ⟨q1, q2, q3⟩ := i2 j hj
        rw [hje] at q2
        have hlt := (end_step (by omega) (by omega) (by omega)).1 h2
        rw [List.mem_take_iff_getElem]
        exact ⟨j, by omega, hje⟩
/-- The node of the next box, before anything stands in it. -/
def newK (L : List Bx) (k : Nat) : Nd := ⟨at_ L k, parentS L k, 0, ctxS L k, []⟩
def addKid (l : List Nd) (p : Int) (k : Nat) : List Nd := if p < 0 then l else l.modify p.toNat fun n => { n with ch := n.ch ++ [(k : Int)] }
def setEn (l : List Nd) (v : Int) (ps : List Nat) : List Nd := ps.foldl (fun l i => l.modify i fun n => { n with en := v }) l
theorem setEn_len (v : Int) (ps : List Nat) : ∀ (l : List Nd), (setEn l v ps).length = l.length := by
  induction ps with
  | nil => intro l; rfl
  | cons p ps ih => intro l; unfold setEn; rw [List.foldl_cons]; exact (ih _).trans (by simp)
theorem setEn_get (v : Int) (ps : List Nat) : ∀ (l : List Nd) (i : Nat) (hi : i < l.length), (setEn l v ps)[i]'(by rw [setEn_len]; exact hi) = { l[i] with en := if i ∈ ps then v else l[i].en } := by
  induction ps with
  | nil => intro l i hi; simp [setEn]
  | cons p ps ih =>
    intro l i hi
    have hi' : i < (l.modify p fun n => { n with en := v }).length := by simpa using hi
    have h := ih (l.modify p fun n => { n with en := v }) i hi'
    have e : setEn l v (p :: ps) = setEn (l.modify p fun n => { n with en := v }) v ps := rfl
    simp only [e]
    rw [h, List.getElem_modify]
    by_cases hp : p = i
    · subst hp
      simp
    · simp [hp, Ne.symm hp]
theorem setEn_snoc (l : List Nd) (v : Int) (ps : List Nat) (p : Nat) : setEn l v (ps ++ [p]) = (setEn l v ps).modify p fun n => { n with en := v } := by simp [setEn]
theorem addKid_len (l : List Nd) (p : Int) (k : Nat) : (addKid l p k).length = l.length := by unfold addKid; split <;> simp
theorem addKid_get (l : List Nd) (p : Int) (k i : Nat) (hi : i < l.length) : (addKid l p k)[i]'(by rw [addKid_len]; exact hi) = { l[i] with ch := if p = (i : Int) then l[i].ch ++ [(k : Int)] else l[i].ch } := by
  by_cases hp : p < 0
  · have e : addKid l p k = l := by unfold addKid; rw [if_pos hp]
    have hne : ¬ p = (i : Int) := by omega
    simp only [e, if_neg hne]
  · have e : addKid l p k = l.modify p.toNat fun n => { n with ch := n.ch ++ [(k : Int)] } := by unfold addKid; rw [if_neg hp]
    simp only [e]
    rw [List.getElem_modify]
    by_cases q : p.toNat = i
    · have hq : p = (i : Int) := by omega
      simp only [if_pos q, if_pos hq]
    · have hq : ¬ p = (i : Int) := by omega
      simp only [if_neg q, if_neg hq]
/-- One box more. -/
theorem NS_step {L : List Bx} {k : Nat} (h : Good L (k + 1)) (hk : k < L.length) : setEn (addKid (NS L k ++ [newK L k]) (parentS L k) k) ((k : Int) + 1) (pathK L (k + 1)) = NS L (k + 1) := by
  have hlen : (NS L k ++ [newK L k]).length = k + 1 := by simp [NS_len]
  apply List.ext_getElem
  · rw [setEn_len, addKid_len, hlen, NS_len]
  · intro i h1 h2
    rw [NS_len] at h2
    rw [setEn_get _ _ _ i (by rw [addKid_len, hlen]; exact h2), addKid_get _ _ _ i (by rw [hlen]; exact h2), NS_get _ _ _ h2]
    have hmem := pathK_mem (k + 1) h (by omega) (k + 1) (Nat.le_refl _) i
    have hpl := parentS_lt L k
    by_cases hik : i < k
    · have e : (NS L k ++ [newK L k])[i]'(by rw [hlen]; exact h2) = nodeK L k i := by
        rw [List.getElem_append_left (by rw [NS_len]; exact hik), NS_get _ _ _ hik]
      simp only [e]
      unfold nodeK
      simp only
      have hpm := pathK_mem (k + 1) h (by omega) k (by omega) i
      obtain ⟨i1, i2⟩ := pathK_facts (k + 1) h k (by omega)
      -- the parent stands on the path
      have hpar : 0 ≤ parentS L k → 1 ≤ dep L k ∧ dep L k ≤ (pathK L k).length := by
        intro _
        have := good_step h (Nat.lt_succ_self k) (by omega)
        have := i1 (by omega)
        have := good_dep h (show k - 1 < k + 1 by omega)
        omega
      by_cases he : k + 1 ≤ endS L i
      · rw [if_pos (hmem.2 ⟨by omega, he⟩)]
        have hm1 : min (endS L i) k = k := by omega
        have hm2 : min (endS L i) (k + 1) = k + 1 := by omega
        rw [hm1, hm2, kidsTo_succ L i k hik]
        have hd := (end_step hik hk (by omega)).1 he
        have hiff : parentS L k = (i : Int) ↔ dep L k = dep L i + 1 := by
          have hon := hpm.2 ⟨hik, by omega⟩
          obtain ⟨j, hj, hje⟩ := List.mem_iff_getElem.1 hon
          obtain ⟨q1, q2, q3⟩ := i2 j hj
          rw [hje] at q2 q3
          constructor
          · intro hp
            have hq := hpar (by omega)
            have hpp := pathK_parent h (by omega : k ≤ k + 1) hq.1 hq.2
            obtain ⟨r1, r2, r3⟩ := i2 ((dep L k).toNat - 1) (by omega)
            have e2 : (pathK L k).getD ((dep L k).toNat - 1) 0 = (pathK L k)[(dep L k).toNat - 1]'(by omega) := by rw [List.getD_eq_getElem?_getD, List.getElem?_eq_getElem (by omega)]; rfl
            rw [e2] at hpp
            have : (pathK L k)[(dep L k).toNat - 1]'(by omega) = i := by omega
            rw [this] at r2
            omega
          · intro hdd
            unfold parentS
            rw [show dep L k - 1 = (j : Int) by omega, ← q3]
        by_cases hp : parentS L k = (i : Int)
        · rw [if_pos hp, if_pos (hiff.1 hp)]
          simp
        · rw [if_neg hp, if_neg (fun hh => hp (hiff.2 hh))]
          simp
      · rw [if_neg (fun hh => he (hmem.1 hh).2)]
        have hm1 : min (endS L i) k = endS L i := by omega
        have hm2 : min (endS L i) (k + 1) = endS L i := by omega
        rw [hm1, hm2]
        have hp : ¬ parentS L k = (i : Int) := by
          intro hp
          have hq := hpar (by omega)
          have hpp := pathK_parent h (by omega : k ≤ k + 1) hq.1 hq.2
          have e2 : (pathK L k).getD ((dep L k).toNat - 1) 0 = (pathK L k)[(dep L k).toNat - 1]'(by omega) := by rw [List.getD_eq_getElem?_getD, List.getElem?_eq_getElem (by omega)]; rfl
          rw [e2] at hpp
          obtain ⟨r1, r2, r3⟩ := i2 ((dep L k).toNat - 1) (by omega)
          have e3 : (pathK L k)[(dep L k).toNat - 1]'(by omega) = i := by omega
          have hon : i ∈ pathK L k := by rw [← e3]; exact List.getElem_mem _
          have := (hpm.1 hon).2
          rw [e3] at r2
          exact he ((end_step hik hk this).2 (by omega))
        rw [if_neg hp]
    · have hik' : i = k := by omega
      subst hik'
      have e : (NS L i ++ [newK L i])[i]'(by rw [hlen]; exact h2) = newK L i := by
        rw [List.getElem_append_right (by rw [NS_len]; omega)]
        simp [NS_len]
      simp only [e]
      rw [if_pos (hmem.2 ⟨by omega, endS_gt L i⟩), if_neg (by omega)]
      unfold newK nodeK
      simp only
      have hm : min (endS L i) (i + 1) = i + 1 := by have := endS_gt L i; omega
      rw [hm, kidsTo_le L i (i + 1) (Nat.le_refl _)]
      simp
/-- Which context the next box belongs to. -/
theorem ctx_step {L : List Bx} {k p : Nat} (hp : parentS L k = (p : Int)) : ctxS L k = if openB (knd L p) = true then (p : Int) else ctxS L p := by
  unfold ctxS
  rw [hp]
  by_cases ho : openB (knd L p) = true
  · rw [if_pos ho]
    have : ctxUp L (p : Int) = p := by rw [ctxUp_eq, if_neg (by simp [ho])]
    rw [this, if_neg (by omega)]
  · rw [if_neg ho]
    by_cases h0 : p = 0
    · subst h0
      have h1 : ctxUp L ((0 : Nat) : Int) = 0 := by rw [ctxUp_eq, if_neg (by simp)]; rfl
      have hl := parentS_lt L 0
      have h2 : ctxUp L (parentS L 0) = -1 := by
        rw [show parentS L 0 = -1 by omega, ctxUp_eq, if_neg (by omega)]
      rw [h1, h2]
      rfl
    · have h1 : ctxUp L (p : Int) = ctxUp L (parentS L p) := by
        rw [ctxUp_eq, if_pos ⟨by omega, by simpa using ho⟩]
        simp
      rw [h1]
theorem ctx_none {L : List Bx} {k : Nat} (hp : parentS L k < 0) : ctxS L k = 0 := by
  have hc : ctxUp L (parentS L k) = parentS L k := by rw [ctxUp_eq, if_neg (by omega)]
  unfold ctxS
  rw [hc, if_pos hp]
theorem good_succ' {L : List Bx} {q : Nat} (h : Good L q) (hb : badS L q = 0) : Good L (q + 1) := fun j hj => by
  by_cases e : j = q
  · rw [e]; exact hb
  · exact h j (by omega)
theorem modify_set (l : List Nd) (r : Nat) (hr : r < l.length) (f : Nd → Nd) : l.modify r f = l.set r (f l[r]) := by
  apply List.ext_getElem
  · simp
  · intro i h1 h2
    rw [List.getElem_modify, List.getElem_set]
    by_cases e : r = i
    · subst e; simp
    · simp [e]
end Go.Proofs.Ytpjngnkcjccbcaa
