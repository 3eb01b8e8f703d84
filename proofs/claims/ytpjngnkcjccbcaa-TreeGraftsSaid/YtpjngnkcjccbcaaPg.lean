/- What stands in a box of a tree, as a tree by itself: plain. -/
import Derived.Test.YtpjngnkcjccbcaaPc
namespace Go.Proofs.Ytpjngnkcjccbcaa
set_option linter.unusedSimpArgs false
set_option linter.unusedVariables false
open Go.RowKit
def boxR : Bx := ⟨0, 3, 0, 0, 0, 0, 0, 0, 0, 0, 0, 0, 0, 0⟩
/-- A box less deep. -/
def lift_ (b : Bx) (d : Int) : Bx := { b with d := b.d - d }
/-- The boxes that stand in one, under a first box. -/
def graft (L : List Bx) (i : Nat) : List Bx := boxR :: ((List.range (endS L i - (i + 1))).map fun k => lift_ (at_ L (i + 1 + k)) (dep L i))
theorem graft_len (L : List Bx) (i : Nat) : (graft L i).length = endS L i - i := by
  have := endS_gt L i
  simp [graft]
  omega
theorem graft_zero (L : List Bx) (i : Nat) : at_ (graft L i) 0 = boxR := rfl
theorem graft_at (L : List Bx) (i k : Nat) (h0 : 0 < k) (h : k < endS L i - i) : at_ (graft L i) k = lift_ (at_ L (i + k)) (dep L i) := by
  obtain ⟨m, rfl⟩ : ∃ m, k = m + 1 := ⟨k - 1, by omega⟩
  unfold at_ graft
  rw [List.getD_cons_succ, List.getD_eq_getElem?_getD, List.getElem?_map, List.getElem?_range (by omega)]
  simp only [Option.map_some, Option.getD_some]
  rw [show i + 1 + m = i + (m + 1) by omega]
  rfl
theorem graft_dep (L : List Bx) (i k : Nat) (h : k < endS L i - i) : dep (graft L i) k = dep L (i + k) - dep L i := by
  by_cases h0 : k = 0
  · subst h0
    have : dep (graft L i) 0 = 0 := rfl
    rw [this]; simp
  · unfold dep
    rw [graft_at L i k (by omega) h]
    rfl
theorem graft_knd (L : List Bx) (i k : Nat) (h0 : 0 < k) (h : k < endS L i - i) : knd (graft L i) k = knd L (i + k) := by
  unfold knd
  rw [graft_at L i k h0 h]
  rfl
theorem graft_par {L : List Bx} {n : Nat} (hg : Good L n) (hn : n = L.length) (i k : Nat) (hi : i < n) (h0 : 0 < k) (h : k < endS L i - i) : parentS (graft L i) k = parentS L (i + k) - i ∧ (i : Int) ≤ parentS L (i + k) := by
  have hle := endS_le L i (by omega)
  have hd := end_deep L i (i + k) (by omega) (by omega)
  have hpos := parent_pos hg (i + k) (by omega) (by omega)
  obtain ⟨p, hp⟩ := Int.eq_ofNat_of_zero_le hpos
  obtain ⟨h1, h2, h3⟩ := parUp_spec L _ (i + k) p hp
  have hip : i ≤ p := by
    by_cases e : i ≤ p
    · exact e
    · exfalso
      have hs := good_step hg (show i + k < n by omega) (by omega)
      obtain ⟨x, hx1, hx2, hx3⟩ := dep_between hg (dep L p) i (i + k) (by omega) (by omega) (by omega) (by omega)
      exact h3 x (by omega) (by omega) (by omega)
  refine ⟨?_, by omega⟩
  have hres : parUp (graft L i) (dep (graft L i) k - 1) k = ((p - i : Nat) : Int) := by
    refine parUp_of _ _ k (p - i) (by omega) ?_ ?_
    · rw [graft_dep L i (p - i) (by omega), graft_dep L i k h, show i + (p - i) = p by omega]
      omega
    · intro m hm1 hm2
      rw [graft_dep L i m (by omega), graft_dep L i k h]
      have := h3 (i + m) (by omega) (by omega)
      omega
  unfold parentS at hp ⊢
  rw [hres, hp]
  omega
theorem endUp_shift (L P : List Bx) (i m : Nat) (t d : Int) (hm : i + m ≤ L.length) (hl : P.length = m) (hd : ∀ j, j < m → dep P j = dep L (i + j) - d) (k : Nat) (hk : k ≤ m) : endUp P t k + i = min (endUp L (t + d) (i + k)) (i + m) := by
  rw [endUp_eq, endUp_eq L]
  by_cases h : k < m
  · rw [hd k h]
    by_cases h2 : t < dep L (i + k) - d
    · rw [if_pos ⟨by omega, h2⟩, if_pos ⟨by omega, by omega⟩]
      have := endUp_shift L P i m t d hm hl hd (k + 1) (by omega)
      rw [this]
      rfl
    · rw [if_neg (fun hh => h2 hh.2), if_neg (fun hh => h2 (by omega))]
      omega
  · rw [if_neg (fun hh => h (by omega))]
    have : k = m := by omega
    subst this
    split
    · have := endUp_ge L (t + d) (i + k + 1); omega
    · omega
  termination_by m - k
theorem desc_end {L : List Bx} (i j : Nat) (h1 : i < j) (h2 : j < endS L i) (hi : i < L.length) : endS L j ≤ endS L i := by
  have hle := endS_le L i hi
  have hj := endS_le L j (by omega)
  have hij := end_deep L i j h1 h2
  refine end_least L i (endS L j) (by have := endS_gt L j; omega) hj fun x h3 h4 => ?_
  by_cases e : x < endS L i
  · exact end_deep L i x h3 e
  · have := end_deep L j x (by omega) h4
    omega
theorem graft_end (L : List Bx) (i k : Nat) (hi : i < L.length) (h0 : 0 < k) (h : k < endS L i - i) : endS (graft L i) k + i = endS L (i + k) := by
  have hle := endS_le L i hi
  have hde := desc_end i (i + k) (by omega) (by omega) hi
  unfold endS at hde hle ⊢
  change endUp L (dep L (i + k)) (i + k + 1) ≤ endS L i at hde
  have := endUp_shift L (graft L i) i (endS L i - i) (dep (graft L i) k) (dep L i) (by unfold endS; omega) (graft_len L i) (fun j hj => graft_dep L i j hj) (k + 1) (by omega)
  rw [this, graft_dep L i k h, show dep L (i + k) - dep L i + dep L i = dep L (i + k) by omega, show i + (k + 1) = i + k + 1 by omega]
  omega
theorem graft_end0 (L : List Bx) (i : Nat) (hi : i < L.length) : endS (graft L i) 0 + i = endS L i := by
  have hle := endS_le L i hi
  have hgt := endS_gt L i
  have hl := graft_len L i
  have h1 := endS_le (graft L i) 0 (by omega)
  have h2 := end_least (graft L i) 0 (endS L i - i) (by omega) (by omega) fun j h1 h2 => by
    rw [graft_dep L i 0 (by omega), graft_dep L i j h2]
    have := end_deep L i (i + j) (by omega) (by omega)
    simp
    omega
  omega
theorem graft_kids (L : List Bx) (i : Nat) (hi : i < L.length) : (kidsS (graft L i) 0).length = (kidsS L i).length := by
  have hle := endS_le L i hi
  have hgt := endS_gt L i
  have he := graft_end0 L i hi
  unfold kidsS kidsTo
  rw [List.length_map, List.length_map, ← List.countP_eq_length_filter, ← List.countP_eq_length_filter]
  have hsplit : List.range (endS L i) = List.range i ++ (List.range (endS L i - i)).map (fun x => i + x) := by
    rw [← List.range_add]; congr 1; omega
  rw [hsplit, List.countP_append]
  have hz : (List.range i).countP (fun k => decide (i < k) && decide (dep L k = dep L i + 1)) = 0 := by
    rw [List.countP_eq_zero]
    intro a ha
    simp only [List.mem_range] at ha
    simp
    omega
  rw [hz, Nat.zero_add, List.countP_map, show endS (graft L i) 0 = endS L i - i by omega]
  apply List.countP_congr
  intro a ha
  simp only [List.mem_range] at ha
  have h0 : dep (graft L i) 0 = 0 := rfl
  rw [h0, graft_dep L i a ha]
  simp only [Function.comp, Bool.and_eq_true, decide_eq_true_eq]
  constructor <;> (rintro ⟨h1, h2⟩; exact ⟨by omega, by omega⟩)
theorem fits_flow (a c : Int) (h1 : 1 ≤ a) (h3 : a ≤ 3) (h : fitsB a c = true) : fitsB 3 c = true := by
  unfold fitsB at h ⊢
  simp at h ⊢
  omega
theorem rchk_lift (b : Bx) (d : Int) (h : rchk b = 0) (h1 : 0 ≤ b.d - d) (h2 : b.d - d ≤ 256) : rchk (lift_ b d) = 0 := by
  rw [rchk_ok] at h ⊢
  obtain ⟨a1, a2, a3, a4, a5, a6, a7, a8⟩ := h
  refine ⟨a1, a2, a3, a4, a5, a6, a7, ?_⟩
  unfold rB at a8 ⊢
  unfold lift_
  simp only
  split at a8
  · omega
  · rename_i q1
    rw [if_neg q1]
    split at a8
    · omega
    · rename_i q2
      rw [if_neg q2, if_neg (by omega)]
theorem graft_good {L : List Bx} {n : Nat} (hg : Good L n) (hn : n = L.length) (hs : n ≤ 65536) (i : Nat) (hi : i < n) (hk1 : 1 ≤ knd L i) (hk3 : knd L i ≤ 3) : Good (graft L i) (endS L i - i) := by
  have hle := endS_le L i (by omega)
  intro k hk
  by_cases h0 : k = 0
  · subst h0
    have h1 : rchk (at_ (graft L i) 0) = 0 := by rw [graft_zero]; decide +kernel
    unfold badS
    rw [if_neg (by omega), if_neg (by rw [h1]; simp), if_pos rfl, graft_zero]
    decide +kernel
  · obtain ⟨hp, hpi⟩ := graft_par hg hn i k hi (by omega) hk
    have hd := end_deep L i (i + k) (by omega) (by omega)
    have hd0 := good_dep hg (show i + k < n by omega)
    have hd1 := good_dep hg hi
    have hst := bad_step (show 0 < i + k by omega) (hg (i + k) (by omega))
    have hr : rchk (at_ (graft L i) k) = 0 := by
      rw [graft_at L i k (by omega) hk]
      unfold dep at hd hd0 hd1
      exact rchk_lift _ _ (bad_rchk (hg (i + k) (by omega))) (by unfold dep; omega) (by unfold dep; omega)
    have hpl := parentS_lt L (i + k)
    unfold badS
    rw [if_neg (by omega), if_neg (by rw [hr]; simp), if_neg h0, if_neg ?_, if_pos ?_]
    · rw [hp, graft_knd L i k (by omega) hk]
      obtain ⟨p, hpp⟩ := Int.eq_ofNat_of_zero_le (show 0 ≤ parentS L (i + k) by omega)
      rw [hpp] at hst hpi hpl ⊢
      have hf := hst.2.2
      simp only [Int.toNat_natCast] at hf
      by_cases e : p = i
      · subst e
        have : ((p : Int) - (p : Int)).toNat = 0 := by omega
        rw [this]
        exact fits_flow _ _ hk1 hk3 hf
      · rw [show ((p : Int) - (i : Int)).toNat = p - i by omega, graft_knd L i (p - i) (by omega) (by omega), show i + (p - i) = p by omega]
        exact hf
    · rw [graft_dep L i k hk, graft_dep L i (k - 1) (by omega)]
      have e : i + (k - 1) = i + k - 1 := by omega
      rw [e]
      omega
theorem graft_chk {L : List Bx} {n : Nat} (hg : Good L n) (hn : n = L.length) (hs : n ≤ 65536) (i : Nat) (hi : i < n) (hk1 : 1 ≤ knd L i) (hk3 : knd L i ≤ 3) : chkS (graft L i) = (-1, 0) := by
  have hgt := endS_gt L i
  exact chkS_good _ (by rw [graft_len]; omega) (by rw [graft_len]; exact graft_good hg hn hs i hi hk1 hk3)
end Go.Proofs.Ytpjngnkcjccbcaa
