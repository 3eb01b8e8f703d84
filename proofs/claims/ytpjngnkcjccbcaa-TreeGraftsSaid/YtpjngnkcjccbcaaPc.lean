/- Children and ends of boxes of a tree: plain. -/
import Derived.Test.YtpjngnkcjccbcaaPx
namespace Go.Proofs.Ytpjngnkcjccbcaa
set_option linter.unusedSimpArgs false
set_option linter.unusedVariables false
open Go.RowKit
/-- Between the last place where a box of a depth stands, and another one, none of that depth stands. -/
theorem parUp_spec (L : List Bx) (t : Int) (k : Nat) (i : Nat) (h : parUp L t k = (i : Int)) : i < k ∧ dep L i = t ∧ ∀ m, i < m → m < k → dep L m ≠ t := by
  induction k with
  | zero => simp [parUp] at h
  | succ k ih =>
    unfold parUp at h
    by_cases e : dep L k = t
    · rw [if_pos e] at h
      have : i = k := by omega
      subst this
      exact ⟨by omega, e, fun m h1 h2 => by omega⟩
    · rw [if_neg e] at h
      obtain ⟨h1, h2, h3⟩ := ih h
      refine ⟨by omega, h2, fun m hm1 hm2 => ?_⟩
      by_cases e2 : m = k
      · rw [e2]; exact e
      · exact h3 m hm1 (by omega)
theorem parUp_of (L : List Bx) (t : Int) (k i : Nat) (hi : i < k) (hd : dep L i = t) (h : ∀ m, i < m → m < k → dep L m ≠ t) : parUp L t k = (i : Int) := by
  induction k with
  | zero => omega
  | succ k ih =>
    unfold parUp
    by_cases e : i = k
    · subst e; rw [if_pos hd]
    · rw [if_neg (h k (by omega) (by omega))]
      exact ih (by omega) (fun m h1 h2 => h m h1 (by omega))
/-- All ahead of a box's end are deeper than it. -/
theorem endUp_deep (L : List Bx) (t : Int) (k m : Nat) (h1 : k ≤ m) (h2 : m < endUp L t k) : t < dep L m := by
  rw [endUp_eq] at h2
  by_cases hc : k < L.length ∧ t < dep L k
  · rw [if_pos hc] at h2
    by_cases e : k = m
    · rw [← e]; exact hc.2
    · exact endUp_deep L t (k + 1) m (by omega) h2
  · rw [if_neg hc] at h2; omega
  termination_by L.length - k
theorem end_deep (L : List Bx) (i m : Nat) (h1 : i < m) (h2 : m < endS L i) : dep L i < dep L m := endUp_deep L _ (i + 1) m h1 h2
theorem endUp_stop (L : List Bx) (t : Int) (k : Nat) (h : endUp L t k < L.length) : dep L (endUp L t k) ≤ t := by
  rw [endUp_eq] at h ⊢
  by_cases hc : k < L.length ∧ t < dep L k
  · rw [if_pos hc] at h ⊢
    exact endUp_stop L t (k + 1) h
  · rw [if_neg hc] at h ⊢
    exact Int.not_lt.1 fun hh => hc ⟨h, hh⟩
  termination_by L.length - k
theorem end_stop (L : List Bx) (i : Nat) (h : endS L i < L.length) : dep L (endS L i) ≤ dep L i := endUp_stop L _ (i + 1) h
theorem endUp_least (L : List Bx) (t : Int) (k m : Nat) (hk : k ≤ m) (hm : m ≤ L.length) (h : ∀ j, k ≤ j → j < m → t < dep L j) : m ≤ endUp L t k := by
  rw [endUp_eq]
  by_cases e : k = m
  · subst e
    split
    · have := endUp_ge L t (k + 1); omega
    · omega
  · rw [if_pos ⟨by omega, h k (Nat.le_refl _) (by omega)⟩]
    exact endUp_least L t (k + 1) m (by omega) hm fun j h1 h2 => h j (by omega) h2
  termination_by m - k
theorem end_least (L : List Bx) (i m : Nat) (hi : i < m) (hm : m ≤ L.length) (h : ∀ j, i < j → j < m → dep L i < dep L j) : m ≤ endS L i := endUp_least L _ (i + 1) m hi hm fun j h1 h2 => h j h1 h2
/-- Depths go up by one at most: a depth between two is met. -/
theorem dep_between {L : List Bx} {n : Nat} (hg : Good L n) (t : Int) (k m : Nat) (hk : k < m) (hm : m ≤ n) (h1 : dep L k ≤ t) (h2 : t ≤ dep L (m - 1)) : ∃ j, k ≤ j ∧ j < m ∧ dep L j = t := by
  induction m with
  | zero => omega
  | succ m ih =>
    simp only [Nat.add_sub_cancel] at h2
    by_cases e : dep L m = t
    · exact ⟨m, by omega, by omega, e⟩
    · by_cases hkm : k = m
      · subst hkm; omega
      · have hs := good_step hg (show m < n by omega) (by omega)
        obtain ⟨j, h3, h4, h5⟩ := ih (by omega) (by omega) (by omega)
        exact ⟨j, h3, by omega, h5⟩
/-- A box's children are the boxes whose parent it is. -/
theorem kid_iff {L : List Bx} {n : Nat} (hg : Good L n) (hn : n = L.length) (i j : Nat) (hj : j < n) : (i < j ∧ j < endS L i ∧ dep L j = dep L i + 1) ↔ parentS L j = (i : Int) := by
  constructor
  · rintro ⟨h1, h2, h3⟩
    refine parUp_of L _ j i h1 (by omega) fun m hm1 hm2 => ?_
    have := end_deep L i m hm1 (by omega)
    omega
  · intro h
    obtain ⟨h1, h2, h3⟩ := parUp_spec L _ j i h
    have hd : ∀ m, i < m → m < j → dep L i < dep L m := by
      intro m hm1 hm2
      rcases Int.lt_trichotomy (dep L i) (dep L m) with hlt | heq | hgt
      · exact hlt
      · exact absurd (by omega : dep L m = dep L j - 1) (h3 m hm1 hm2)
      · obtain ⟨x, hx1, hx2, hx3⟩ := dep_between hg (dep L i) (m + 1 - 1) (j + 1) (by omega) (by omega) (by simp; omega) (by simp; omega)
        have hxj : x ≠ j := by intro e; rw [e] at hx3; omega
        exact absurd (by omega : dep L x = dep L j - 1) (h3 x (by omega) (by omega))
    have he : j ≤ endS L i := end_least L i j h1 (by omega) hd
    exact ⟨h1, (end_step h1 (by omega) he).2 (by omega), by omega⟩
theorem mem_kids {L : List Bx} {n : Nat} (hg : Good L n) (hn : n = L.length) (i : Nat) (hi : i < n) (x : Int) : x ∈ kidsS L i ↔ ∃ j : Nat, x = (j : Int) ∧ j < n ∧ parentS L j = (i : Int) := by
  have hle := endS_le L i (by omega)
  unfold kidsS kidsTo
  simp only [List.mem_map, List.mem_filter, List.mem_range, Bool.and_eq_true, decide_eq_true_eq]
  constructor
  · rintro ⟨j, ⟨h1, h2, h3⟩, rfl⟩
    exact ⟨j, rfl, by omega, (kid_iff hg hn i j (by omega)).1 ⟨h2, h1, h3⟩⟩
  · rintro ⟨j, rfl, h1, h2⟩
    have := (kid_iff hg hn i j h1).2 h2
    exact ⟨j, ⟨this.2.1, this.1, this.2.2⟩, rfl⟩
/-- Which numbers are parents' below a bound: how many. -/
def under (L : List Bx) (n m : Nat) : Nat := (List.range n).countP fun j => decide (0 ≤ parentS L j) && decide (parentS L j < (m : Int))
theorem countP_split {α : Type} (p q r : α → Bool) (l : List α) (h : ∀ a, a ∈ l → (p a = true ↔ q a = true ∨ r a = true)) (hd : ∀ a, a ∈ l → ¬ (q a = true ∧ r a = true)) : l.countP p = l.countP q + l.countP r := by
  induction l with
  | nil => rfl
  | cons a l ih =>
    have ih' := ih (fun b hb => h b (List.mem_cons_of_mem _ hb)) (fun b hb => hd b (List.mem_cons_of_mem _ hb))
    have h1 := h a List.mem_cons_self
    have h2 := hd a List.mem_cons_self
    rw [List.countP_cons, List.countP_cons, List.countP_cons, ih']
    by_cases hq : q a = true
    · have hr : ¬ r a = true := fun hr => h2 ⟨hq, hr⟩
      have hp : p a = true := h1.2 (.inl hq)
      simp [hp, hq, hr]
      omega
    · by_cases hr : r a = true
      · have hp : p a = true := h1.2 (.inr hr)
        simp [hp, hq, hr]
        omega
      · have hp : ¬ p a = true := fun hp => by rcases h1.1 hp with h | h <;> contradiction
        simp [hp, hq, hr]
theorem under_zero (L : List Bx) (n : Nat) : under L n 0 = 0 := by
  unfold under
  rw [List.countP_eq_zero]
  intro a _
  simp only [Bool.and_eq_true, decide_eq_true_eq]
  omega
theorem kids_count {L : List Bx} {n : Nat} (hg : Good L n) (hn : n = L.length) (i : Nat) (hi : i < n) : (kidsS L i).length = (List.range n).countP fun j => decide (parentS L j = (i : Int)) := by
  have hle := endS_le L i (by omega)
  unfold kidsS kidsTo
  rw [List.length_map, ← List.countP_eq_length_filter]
  have hsplit : List.range n = List.range (endS L i) ++ (List.range (n - endS L i)).map (fun x => endS L i + x) := by
    rw [← List.range_add]; congr 1; omega
  rw [hsplit, List.countP_append]
  have hz : ((List.range (n - endS L i)).map (fun x => endS L i + x)).countP (fun j => decide (parentS L j = (i : Int))) = 0 := by
    rw [List.countP_eq_zero]
    intro a ha
    simp only [List.mem_map, List.mem_range] at ha
    obtain ⟨x, hx, rfl⟩ := ha
    simp only [decide_eq_true_eq]
    intro hp
    have := (kid_iff hg hn i (endS L i + x) (by omega)).2 hp
    omega
  rw [hz, Nat.add_zero]
  apply List.countP_congr
  intro a ha
  simp only [List.mem_range] at ha
  have := kid_iff hg hn i a (by omega)
  simp only [Bool.and_eq_true, decide_eq_true_eq]
  constructor
  · rintro ⟨h1, h2⟩; exact this.1 ⟨h1, ha, h2⟩
  · intro h; have := this.2 h; exact ⟨this.1, this.2.2⟩
theorem under_succ {L : List Bx} {n : Nat} (hg : Good L n) (hn : n = L.length) (i : Nat) (hi : i < n) : under L n (i + 1) = under L n i + (kidsS L i).length := by
  rw [kids_count hg hn i hi]
  unfold under
  apply countP_split
  · intro a _
    simp only [Bool.and_eq_true, decide_eq_true_eq]
    constructor
    · rintro ⟨h1, h2⟩
      by_cases e : parentS L a = (i : Int)
      · exact .inr e
      · exact .inl ⟨h1, by omega⟩
    · rintro (⟨h1, h2⟩ | h)
      · exact ⟨h1, by omega⟩
      · omega
  · intro a _
    simp only [Bool.and_eq_true, decide_eq_true_eq]
    omega
theorem parent_pos {L : List Bx} {n : Nat} (hg : Good L n) (j : Nat) (hj : j < n) (h0 : 0 < j) : 0 ≤ parentS L j := by
  have hs := good_step hg hj h0
  exact parent_found (good_mono hg (by omega)) h0 hs.1 hs.2
theorem under_all {L : List Bx} {n : Nat} (hg : Good L n) (h0 : 0 < n) : under L n n + 1 = n := by
  obtain ⟨m, rfl⟩ : ∃ m, n = m + 1 := ⟨n - 1, by omega⟩
  unfold under
  rw [List.range_succ_eq_map, List.countP_cons, List.countP_map]
  have h1 : parentS L 0 = -1 := by have := parentS_lt L 0; omega
  rw [if_neg (by simp [h1])]
  have h2 : (List.range m).countP ((fun j => decide (0 ≤ parentS L j) && decide (parentS L j < ((m + 1 : Nat) : Int))) ∘ Nat.succ) = (List.range m).length := by
    rw [List.countP_eq_length]
    intro a ha
    simp only [List.mem_range] at ha
    have hp := parent_pos hg (a + 1) (by omega) (by omega)
    have hl := parentS_lt L (a + 1)
    simp only [Function.comp, Nat.succ_eq_add_one, Bool.and_eq_true, decide_eq_true_eq]
    omega
  rw [h2]
  simp
/-- The children stand one behind the other. -/
theorem kids_sorted (L : List Bx) (i m : Nat) : (kidsTo L i m).Pairwise (· < ·) := by
  unfold kidsTo
  refine List.Pairwise.map _ (fun a b (h : a < b) => by omega) (List.Pairwise.filter _ List.pairwise_lt_range)
/-- The first child stands behind its parent. -/
theorem kids_first {L : List Bx} {n : Nat} (hg : Good L n) (hn : n = L.length) (i : Nat) (hi : i < n) (h : 0 < (kidsS L i).length) : (kidsS L i).getD 0 0 = (i : Int) + 1 := by
  have hm0 : (kidsS L i)[0] ∈ kidsS L i := List.getElem_mem _
  obtain ⟨j, e, hj, hp⟩ := (mem_kids hg hn i hi _).1 hm0
  have hk := (kid_iff hg hn i j hj).2 hp
  have hi1 : parentS L (i + 1) = (i : Int) := by
    refine (kid_iff hg hn i (i + 1) (by omega)).1 ⟨by omega, by omega, ?_⟩
    have h1 := end_deep L i (i + 1) (by omega) (by omega)
    have h2 := good_step hg (show i + 1 < n by omega) (by omega)
    simp at h2
    omega
  have hm1 : ((i + 1 : Nat) : Int) ∈ kidsS L i := (mem_kids hg hn i hi _).2 ⟨i + 1, rfl, by omega, hi1⟩
  obtain ⟨x, hx, hxe⟩ := List.mem_iff_getElem.1 hm1
  have hs := kids_sorted L i (endS L i)
  rw [List.getD_eq_getElem?_getD, List.getElem?_eq_getElem h, Option.getD_some]
  by_cases hx0 : x = 0
  · subst hx0; rw [hxe]; omega
  · have := (List.pairwise_iff_getElem.1 hs) 0 x h hx (by omega)
    change (kidsS L i)[0] < (kidsS L i)[x] at this
    omega
/-- Where a box without children ends, and one with children. -/
theorem end_leaf {L : List Bx} {n : Nat} (hg : Good L n) (hn : n = L.length) (i : Nat) (hi : i < n) (h : (kidsS L i).length = 0) : endS L i = i + 1 := by
  have h1 := endS_gt L i
  have h2 := endS_le L i (by omega)
  by_cases e : endS L i = i + 1
  · exact e
  · exfalso
    have h3 := end_deep L i (i + 1) (by omega) (by omega)
    have h4 := good_step hg (show i + 1 < n by omega) (by omega)
    simp at h4
    have hp := (kid_iff hg hn i (i + 1) (by omega)).1 ⟨by omega, by omega, by omega⟩
    have hm := (mem_kids hg hn i hi ((i + 1 : Nat) : Int)).2 ⟨i + 1, rfl, by omega, hp⟩
    rw [List.eq_nil_of_length_eq_zero h] at hm
    simp at hm
theorem kid_end_le {L : List Bx} {n : Nat} (hg : Good L n) (hn : n = L.length) (i c : Nat) (hi : i < n) (hc : c < n) (hp : parentS L c = (i : Int)) : endS L c ≤ endS L i := by
  have hk := (kid_iff hg hn i c hc).2 hp
  have hle := endS_le L c (by omega)
  refine end_least L i (endS L c) (by have := endS_gt L c; omega) hle fun j h1 h2 => ?_
  by_cases e : j < endS L i
  · exact end_deep L i j h1 e
  · have := end_deep L c j (by omega) h2
    omega
theorem end_last {L : List Bx} {n : Nat} (hg : Good L n) (hn : n = L.length) (i : Nat) (hi : i < n) (h : 0 < (kidsS L i).length) : ∃ c : Nat, (kidsS L i).getD ((kidsS L i).length - 1) 0 = (c : Int) ∧ c < n ∧ endS L c = endS L i := by
  have hm0 : (kidsS L i)[(kidsS L i).length - 1] ∈ kidsS L i := List.getElem_mem _
  obtain ⟨c, e, hc, hp⟩ := (mem_kids hg hn i hi _).1 hm0
  have hk := (kid_iff hg hn i c hc).2 hp
  have hle := kid_end_le hg hn i c hi hc hp
  refine ⟨c, by rw [List.getD_eq_getElem?_getD, List.getElem?_eq_getElem (by omega), Option.getD_some, e], hc, ?_⟩
  by_cases hlt : endS L c < endS L i
  · exfalso
    have hei := endS_le L i (by omega)
    have hgt := endS_gt L c
    have h1 := end_deep L i (endS L c) (by omega) hlt
    have h2 := end_stop L c (by omega)
    have hp2 := (kid_iff hg hn i (endS L c) (by omega)).1 ⟨by omega, hlt, by omega⟩
    have hm := (mem_kids hg hn i hi ((endS L c : Nat) : Int)).2 ⟨_, rfl, by omega, hp2⟩
    obtain ⟨x, hx, hxe⟩ := List.mem_iff_getElem.1 hm
    have hs := kids_sorted L i (endS L i)
    by_cases hxl : x = (kidsS L i).length - 1
    · subst hxl; omega
    · have hl1 : (kidsS L i).length - 1 < (kidsS L i).length := by omega
      have hl2 : x < (kidsS L i).length - 1 := by omega
      have := (List.pairwise_iff_getElem.1 hs) x ((kidsS L i).length - 1) hx hl1 hl2
      change (kidsS L i)[x] < (kidsS L i)[(kidsS L i).length - 1] at this
      omega
  · omega
theorem end_first {L : List Bx} {n : Nat} (hg : Good L n) (hn : n = L.length) (h0 : 0 < n) : endS L 0 = n := by
  have h1 := endS_le L 0 (by omega)
  have := end_least L 0 n h0 (by omega) fun j h2 h3 => by
    have h4 := good_zero hg h0
    have h5 := good_step hg h3 h2
    omega
  omega
end Go.Proofs.Ytpjngnkcjccbcaa
