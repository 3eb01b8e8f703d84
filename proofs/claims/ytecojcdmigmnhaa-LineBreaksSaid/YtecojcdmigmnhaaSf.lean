/- Looking into shelves: plain. -/
import Derived.Test.YtecojcdmigmnhaaSb
namespace Go.Proofs.Ytecojcdmigmnhaa
set_option linter.unusedSimpArgs false
set_option linter.unusedVariables false
def sh0 : Sh := ⟨-far, -far, far⟩
def shAt (F : List Sh) (i : Nat) : Sh := F.getD i sh0
theorem shAt_eq (F : List Sh) (i : Nat) (h : i < F.length) : shAt F i = F[i] := by simp [shAt, List.getD_eq_getElem?_getD, List.getElem?_eq_getElem h]
/-- How many shelves begin above a row. -/
def above (F : List Sh) (y : Int) : Nat := F.countP fun s => decide (s.t < y)
theorem above_le (F : List Sh) (y : Int) : above F y ≤ F.length := List.countP_le_length
/-- The first ones are those above. -/
theorem above_iff : ∀ (F : List Sh) (y : Int), Asc F → ∀ i (h : i < F.length), i < above F y ↔ F[i].t < y
  | [], _, _, i, h => by simp at h
  | s :: F, y, hs, i, h => by
    have hc : above (s :: F) y = above F y + if s.t < y then 1 else 0 := by
      unfold above
      rw [List.countP_cons]
      simp
    rw [hc]
    by_cases h1 : s.t < y
    · rw [if_pos h1]
      cases i with
      | zero => simp; exact h1
      | succ i =>
        have := above_iff F y hs.tail i (by simpa using h)
        simp only [List.getElem_cons_succ]
        rw [← this]
        omega
    · rw [if_neg h1]
      have h0 : above F y = 0 := by
        unfold above
        rw [List.countP_eq_zero]
        intro x hx
        have := hs.head x hx
        simp
        omega
      rw [h0]
      cases i with
      | zero => simp; omega
      | succ i =>
        have hi : i < F.length := by simpa using h
        have := hs.head F[i] (List.getElem_mem hi)
        simp
        omega
/-- The place of the shelf in which a row is. -/
def findS (F : List Sh) (y : Int) : Nat := if above F y < F.length ∧ (shAt F (above F y)).t = y then above F y else above F y - 1
theorem findS_spec (F : List Sh) (y : Int) (hs : Asc F) (h0 : 0 < F.length) (hy : F[0].t ≤ y) : ∃ h : findS F y < F.length, F[findS F y].t ≤ y ∧ ∀ j (hj : j < F.length), findS F y < j → y < F[j].t := by
  have hl := above_le F y
  unfold findS
  by_cases hc : above F y < F.length ∧ (shAt F (above F y)).t = y
  · simp only [hc, and_self, if_true]
    have e := hc.2
    rw [shAt_eq F _ hc.1] at e
    refine ⟨trivial, by omega, fun j hj hlt => ?_⟩
    have := (List.pairwise_iff_getElem.1 hs) (above F y) j hc.1 hj hlt
    omega
  · simp only [if_neg hc]
    have hpos : above F y ≠ 0 ∨ above F y - 1 = 0 := by omega
    have hlt : above F y - 1 < F.length := by omega
    refine ⟨hlt, ?_, fun j hj hlt2 => ?_⟩
    · by_cases h1 : above F y = 0
      · simp only [h1]; exact hy
      · have := (above_iff F y hs (above F y - 1) hlt).1 (by omega)
        omega
    · have h1 := above_iff F y hs j hj
      have h2 : ¬ F[j].t < y := fun hh => by have := h1.2 hh; omega
      by_cases h3 : F[j].t = y
      · exfalso
        -- j is the first one that is not above
        have hja : above F y = j := by
          by_cases h4 : above F y < j
          · have := (List.pairwise_iff_getElem.1 hs) (above F y) j (by omega) hj h4
            have h5 := above_iff F y hs (above F y) (by omega)
            omega
          · have := h1
            omega
        exact hc ⟨by omega, by rw [hja, shAt_eq F j hj]; exact h3⟩
      · omega
/-- What is free from a shelf on, till a row. -/
def fb (to : Int) : List Sh → Int × Int → Int × Int
  | [], p => p
  | s :: F, p => if to ≤ s.t then p else fb to F (clipP p (s.l, s.r))
def Wide (F : List Sh) : Prop := ∀ s ∈ F, -far ≤ s.l ∧ s.r ≤ far
def nextT (to : Int) : List Sh → Int
  | [] => to
  | s :: _ => min to s.t
theorem nextT_le (to : Int) (F : List Sh) : nextT to F ≤ to := by cases F <;> simp only [nextT] <;> omega
theorem const_low {d : Int × Int} {F : List Sh} {z to : Int} (ha : Asc F) (h : z < nextT to F) : valS d F z = d := by
  refine valS_low fun x hx => ?_
  cases F with
  | nil => simp at hx
  | cons t F' =>
    simp only [nextT] at h
    rcases List.mem_cons.1 hx with rfl | hx
    · omega
    · have := ha.head x hx; omega
theorem fb_is (g : Int → Int × Int) (to c : Int) : ∀ (F : List Sh) (d p : Int × Int), Asc F → Wide F → c ≤ nextT to F → (∀ z, nextT to F ≤ z → g z = valS d F z) → IsBand g c (nextT to F) p → IsBand g c to (fb to F p)
  | [], d, p, _, _, _, _, hp => hp
  | s :: F, d, p, ha, hw, hce, hg, hp => by
    unfold fb
    by_cases hto : to ≤ s.t
    · rw [if_pos hto]
      have e : nextT to (s :: F) = to := by simp only [nextT]; omega
      rw [e] at hp
      exact hp
    · rw [if_neg hto]
      have e : nextT to (s :: F) = s.t := by simp only [nextT]; omega
      rw [e] at hp hg hce
      have hle := nextT_le to F
      have hlt : s.t < nextT to F := by
        cases F with
        | nil => simp only [nextT]; omega
        | cons t F' => simp only [nextT]; have := ha.head t List.mem_cons_self; omega
      have hg' : ∀ z, s.t ≤ z → g z = valS (s.l, s.r) F z := fun z hz => by
        rw [hg z hz]
        simp only [valS]
        rw [if_pos hz]
      have hconst : IsBand g s.t (nextT to F) (s.l, s.r) := IsBand.const hlt (fun z z1 z2 => by rw [hg' z z1]; exact const_low ha.tail z2) (hw s List.mem_cons_self)
      exact fb_is g to c F (s.l, s.r) _ ha.tail (fun x hx => hw x (List.mem_cons_of_mem _ hx)) (by omega) (fun z hz => hg' z (by omega)) (hp.clip hconst hce (by omega))
/-- What the rows from one on, till another one, leave free: from the shelf in which the first one is. -/
theorem fb_find (d : Int × Int) (F : List Sh) (a b : Int) (hs : Asc F) (hw : Wide F) (h0 : 0 < F.length) (ha : F[0].t ≤ a) (hab : a < b) : IsBand (valS d F) a b (fb b (F.drop (findS F a)) (-far, far)) := by
  obtain ⟨hi, h1, h2⟩ := findS_spec F a hs h0 ha
  generalize findS F a = i at *
  have hd : F.drop i = F[i] :: F.drop (i + 1) := (List.getElem_cons_drop ..).symm
  have hasc : Asc (F.drop i) := hs.sublist (List.drop_sublist _ _)
  have hv : ∀ z, a ≤ z → valS d F z = valS (F[i].l, F[i].r) (F.drop (i + 1)) z := by
    intro z hz
    have hgen : ∀ (k : Nat) (F : List Sh) (d : Int × Int) (hk : k < F.length), Asc F → F[k].t ≤ z → valS d F z = valS (F[k].l, F[k].r) (F.drop (k + 1)) z := by
      intro k
      induction k with
      | zero =>
        intro F d hk hA hz
        cases F with
        | nil => simp at hk
        | cons s F => simp only [valS, List.getElem_cons_zero, List.drop_succ_cons, List.drop_zero] at *; rw [if_pos hz]
      | succ k ih =>
        intro F d hk hA hz
        cases F with
        | nil => simp at hk
        | cons s F =>
          have hk' : k < F.length := by simpa using hk
          have hh := hA.head F[k] (List.getElem_mem hk')
          simp only [List.getElem_cons_succ, List.drop_succ_cons] at hz ⊢
          simp only [valS]
          rw [if_pos (by omega)]
          exact ih F _ hk' hA.tail hz
    exact hgen i F d hi hs (by omega)
  rw [hd]
  unfold fb
  rw [if_neg (by omega)]
  have hasc2 : Asc (F.drop (i + 1)) := hs.sublist (List.drop_sublist _ _)
  have hn : a < nextT b (F.drop (i + 1)) := by
    cases hF : F.drop (i + 1) with
    | nil => simp only [nextT]; omega
    | cons t R =>
      simp only [nextT]
      have hl : i + 1 < F.length := by
        have : (F.drop (i + 1)).length = R.length + 1 := by rw [hF]; rfl
        rw [List.length_drop] at this
        omega
      have ht : F[i + 1] = t := by
        have := (List.getElem_cons_drop (h := hl)).trans hF
        exact (List.cons.inj this).1
      have := h2 (i + 1) hl (by omega)
      rw [ht] at this
      omega
  have hwi := hw F[i] (List.getElem_mem hi)
  have hc : clipP (-far, far) (F[i].l, F[i].r) = (F[i].l, F[i].r) := by
    unfold clipP
    simp only [Prod.mk.injEq]
    omega
  rw [hc]
  exact fb_is (valS d F) b a _ (F[i].l, F[i].r) _ hasc2 (fun x hx => hw x (List.mem_of_mem_drop hx)) (by omega) (fun z hz => hv z (by omega))
    (IsBand.const hn (fun z z1 z2 => by rw [hv z z1]; exact const_low hasc2 z2) hwi)
/-- The shelves, with the first one. -/
def full (S : List Sh) : List Sh := sh0 :: S
theorem full_asc {S : List Sh} (h : ShOk S) : Asc (full S) := List.pairwise_cons.2 ⟨fun x hx => h.low x hx, h.asc⟩
theorem full_val (S : List Sh) (z : Int) (hz : -far ≤ z) (d : Int × Int) : valS d (full S) z = valS (-far, far) S z := by
  unfold full
  simp only [valS]
  rw [if_pos (show sh0.t ≤ z from hz)]
  rfl
theorem shelves_wide {l : List Fo} {S : List Sh} (h : IsShelves l S) : Wide (full S) := by
  intro s hs
  rcases List.mem_cons.1 hs with rfl | hs
  · exact ⟨Int.le_refl _, Int.le_refl _⟩
  · have hv := h.val s.t (by have := h.ok.low s hs; omega)
    have hgen : ∀ (S : List Sh) (d : Int × Int), Asc S → s ∈ S → valS d S s.t = (s.l, s.r) := by
      intro S
      induction S with
      | nil => intro d _ hm; simp at hm
      | cons x S ih =>
        intro d hA hm
        simp only [valS]
        rcases List.mem_cons.1 hm with rfl | hm
        · rw [if_pos (Int.le_refl _)]
          exact valS_low fun y hy => hA.head y hy
        · rw [if_pos (by have := hA.head s hm; omega)]
          exact ih _ hA.tail hm
    rw [hgen S _ h.ok.asc hs] at hv
    have := bnd_in l s.t
    rw [← hv] at this
    exact this
/-- The program's band. -/
theorem prog_band {l : List Fo} {S : List Sh} (h : IsShelves l S) (a b : Int) (ha : -far ≤ a) (hab : a < b) : fb b ((full S).drop (findS (full S) a)) (-far, far) = band l a b := by
  have h1 := fb_find (-far, far) (full S) a b (full_asc h.ok) (shelves_wide h) (by simp [full]) ha hab
  have h2 : IsBand (bnd l) a b (fb b ((full S).drop (findS (full S) a)) (-far, far)) := by
    have e : ∀ z, a ≤ z → valS (-far, far) (full S) z = bnd l z := fun z hz => by rw [full_val S z (by omega), h.val z (by omega)]
    exact ⟨h1.l1, h1.r1, fun z z1 z2 => by rw [← e z z1]; exact h1.l2 z z1 z2, fun z z1 z2 => by rw [← e z z1]; exact h1.r2 z z1 z2,
      h1.l3.imp id fun ⟨z, z1, z2, z3⟩ => ⟨z, z1, z2, by rw [← e z z1]; exact z3⟩, h1.r3.imp id fun ⟨z, z1, z2, z3⟩ => ⟨z, z1, z2, by rw [← e z z1]; exact z3⟩⟩
  exact h2.unique (band_is l a b)
/-- The first shelf that begins below a row. -/
def below (F : List Sh) (y : Int) : Nat := if above F y < F.length ∧ (shAt F (above F y)).t = y then above F y + 1 else above F y
theorem below_spec (F : List Sh) (y : Int) (hs : Asc F) : below F y ≤ F.length ∧ ∀ j (hj : j < F.length), below F y ≤ j ↔ y < F[j].t := by
  have hl := above_le F y
  unfold below
  by_cases hc : above F y < F.length ∧ (shAt F (above F y)).t = y
  · simp only [hc, and_self, if_true]
    have e := hc.2
    rw [shAt_eq F _ hc.1] at e
    refine ⟨hc.1, fun j hj => ?_⟩
    constructor
    · intro hlt
      have := (List.pairwise_iff_getElem.1 hs) (above F y) j hc.1 hj (by omega)
      omega
    · intro hy
      have h1 := above_iff F y hs j hj
      have h2 : ¬ j < above F y := fun hh => by have := h1.1 hh; omega
      by_cases e2 : j = above F y
      · subst e2; omega
      · omega
  · simp only [if_neg hc]
    refine ⟨hl, fun j hj => ?_⟩
    have h1 := above_iff F y hs j hj
    constructor
    · intro hlt
      have h2 : ¬ F[j].t < y := fun hh => by have := h1.2 hh; omega
      by_cases h3 : F[j].t = y
      · exfalso
        have hja : above F y = j := by
          by_cases h4 : above F y < j
          · have := (List.pairwise_iff_getElem.1 hs) (above F y) j (by omega) hj h4
            have h5 := above_iff F y hs (above F y) (by omega)
            omega
          · omega
        exact hc ⟨by omega, by rw [hja, shAt_eq F j hj]; exact h3⟩
      · omega
    · intro hy
      have h2 : ¬ j < above F y := fun hh => by have := h1.1 hh; omega
      omega
end Go.Proofs.Ytecojcdmigmnhaa
