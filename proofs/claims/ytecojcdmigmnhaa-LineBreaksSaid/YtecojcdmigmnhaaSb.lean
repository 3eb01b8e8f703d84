/- What is free in rows; the edges of floats: plain. -/
import Derived.Test.YtecojcdmigmnhaaSh
namespace Go.Proofs.Ytecojcdmigmnhaa
set_option linter.unusedSimpArgs false
set_option linter.unusedVariables false
def clipP (a b : Int × Int) : Int × Int := (max a.1 b.1, min a.2 b.2)
/-- What is free in all of some rows. -/
def bandN (l : List Fo) (y : Int) : Nat → Int × Int
  | 0 => (-far, far)
  | n + 1 => clipP (bandN l y n) (bnd l (y + n))
def band (l : List Fo) (a b : Int) : Int × Int := bandN l a (b - a).toNat
/-- The greatest left bound, and the least right one, in rows. -/
structure IsBand (g : Int → Int × Int) (a b : Int) (p : Int × Int) : Prop where
  l1 : -far ≤ p.1
  r1 : p.2 ≤ far
  l2 : ∀ z, a ≤ z → z < b → (g z).1 ≤ p.1
  r2 : ∀ z, a ≤ z → z < b → p.2 ≤ (g z).2
  l3 : p.1 = -far ∨ ∃ z, a ≤ z ∧ z < b ∧ (g z).1 = p.1
  r3 : p.2 = far ∨ ∃ z, a ≤ z ∧ z < b ∧ (g z).2 = p.2
theorem IsBand.unique {g : Int → Int × Int} {a b : Int} {p q : Int × Int} (h : IsBand g a b p) (k : IsBand g a b q) : p = q := by
  have h1 : p.1 ≤ q.1 := by
    rcases h.l3 with e | ⟨z, z1, z2, e⟩
    · rw [e]; exact k.l1
    · rw [← e]; exact k.l2 z z1 z2
  have h2 : q.1 ≤ p.1 := by
    rcases k.l3 with e | ⟨z, z1, z2, e⟩
    · rw [e]; exact h.l1
    · rw [← e]; exact h.l2 z z1 z2
  have h3 : q.2 ≤ p.2 := by
    rcases h.r3 with e | ⟨z, z1, z2, e⟩
    · rw [e]; exact k.r1
    · rw [← e]; exact k.r2 z z1 z2
  have h4 : p.2 ≤ q.2 := by
    rcases k.r3 with e | ⟨z, z1, z2, e⟩
    · rw [e]; exact h.r1
    · rw [← e]; exact h.r2 z z1 z2
  exact Prod.ext (by omega) (by omega)
theorem IsBand.empty (g : Int → Int × Int) {a b : Int} (h : b ≤ a) : IsBand g a b (-far, far) :=
  ⟨Int.le_refl _, Int.le_refl _, fun z _ _ => by omega, fun z _ _ => by omega, .inl rfl, .inl rfl⟩
theorem IsBand.clip {g : Int → Int × Int} {a b c : Int} {p q : Int × Int} (h : IsBand g a b p) (k : IsBand g b c q) (hab : a ≤ b) (hbc : b ≤ c) : IsBand g a c (clipP p q) := by
  refine ⟨?_, ?_, fun z z1 z2 => ?_, fun z z1 z2 => ?_, ?_, ?_⟩
  · show _ ≤ max p.1 q.1; have := h.l1; omega
  · show min p.2 q.2 ≤ _; have := h.r1; omega
  · show _ ≤ max p.1 q.1
    by_cases e : z < b
    · have := h.l2 z z1 e; omega
    · have := k.l2 z (by omega) z2; omega
  · show min p.2 q.2 ≤ _
    by_cases e : z < b
    · have := h.r2 z z1 e; omega
    · have := k.r2 z (by omega) z2; omega
  · show max p.1 q.1 = _ ∨ ∃ z, a ≤ z ∧ z < c ∧ _ = max p.1 q.1
    by_cases e : q.1 ≤ p.1
    · rw [Int.max_eq_left e]
      rcases h.l3 with e | ⟨z, z1, z2, e⟩
      · exact .inl e
      · exact .inr ⟨z, z1, by omega, e⟩
    · rw [Int.max_eq_right (by omega)]
      rcases k.l3 with e | ⟨z, z1, z2, e⟩
      · exact .inl e
      · exact .inr ⟨z, by omega, z2, e⟩
  · show min p.2 q.2 = _ ∨ ∃ z, a ≤ z ∧ z < c ∧ _ = min p.2 q.2
    by_cases e : p.2 ≤ q.2
    · rw [Int.min_eq_left e]
      rcases h.r3 with e | ⟨z, z1, z2, e⟩
      · exact .inl e
      · exact .inr ⟨z, z1, by omega, e⟩
    · rw [Int.min_eq_right (by omega)]
      rcases k.r3 with e | ⟨z, z1, z2, e⟩
      · exact .inl e
      · exact .inr ⟨z, by omega, z2, e⟩
/-- Rows in all of which the same is free. -/
theorem IsBand.const {g : Int → Int × Int} {a b : Int} {p : Int × Int} (hab : a < b) (h : ∀ z, a ≤ z → z < b → g z = p) (hp : -far ≤ p.1 ∧ p.2 ≤ far) : IsBand g a b p :=
  ⟨hp.1, hp.2, fun z z1 z2 => by rw [h z z1 z2]; omega, fun z z1 z2 => by rw [h z z1 z2]; omega, .inr ⟨a, Int.le_refl _, hab, by rw [h a (Int.le_refl _) hab]⟩, .inr ⟨a, Int.le_refl _, hab, by rw [h a (Int.le_refl _) hab]⟩⟩
theorem put1_mono (f : Fo) (y : Int) (p : Int × Int) : p.1 ≤ (put1 f y p).1 ∧ (put1 f y p).2 ≤ p.2 := by
  unfold put1
  split
  · split <;> simp only <;> omega
  · omega
theorem fold_mono (l : List Fo) (y : Int) : ∀ p : Int × Int, p.1 ≤ (l.foldl (fun p f => put1 f y p) p).1 ∧ (l.foldl (fun p f => put1 f y p) p).2 ≤ p.2 := by
  induction l with
  | nil => intro p; exact ⟨Int.le_refl _, Int.le_refl _⟩
  | cons f l ih =>
    intro p
    rw [List.foldl_cons]
    have h1 := put1_mono f y p
    have h2 := ih (put1 f y p)
    omega
theorem bnd_in (l : List Fo) (y : Int) : -far ≤ (bnd l y).1 ∧ (bnd l y).2 ≤ far := fold_mono l y (-far, far)
theorem bnd_snoc (l : List Fo) (f : Fo) (y : Int) : bnd (l ++ [f]) y = put1 f y (bnd l y) := by simp [bnd]
theorem bandN_is (l : List Fo) (a : Int) : ∀ n : Nat, IsBand (bnd l) a (a + n) (bandN l a n)
  | 0 => IsBand.empty _ (by omega)
  | n + 1 => by
    have h := (bandN_is l a n).clip (IsBand.const (a := a + n) (b := a + ((n + 1 : Nat) : Int)) (p := bnd l (a + n)) (by omega) (fun z z1 z2 => by rw [show z = a + n by omega]) (bnd_in l _)) (by omega) (by omega)
    exact h
theorem band_is (l : List Fo) (a b : Int) : IsBand (bnd l) a b (band l a b) := by
  by_cases h : a ≤ b
  · have := bandN_is l a (b - a).toNat
    rw [show a + ((b - a).toNat : Int) = b by omega] at this
    exact this
  · unfold band
    rw [show (b - a).toNat = 0 by omega]
    exact IsBand.empty _ (by omega)
/-- What reaches into a row. -/
def hits (f : Fo) (y : Int) : Prop := cnts f = true ∧ f.y0 ≤ y ∧ y < f.y1
theorem put1_hit {f : Fo} {y : Int} (h : hits f y) (p : Int × Int) : put1 f y p = if f.s = 1 then (max p.1 f.x1, p.2) else (p.1, min p.2 f.x0) := by unfold put1; exact if_pos h
theorem put1_miss {f : Fo} {y : Int} (h : ¬ hits f y) (p : Int × Int) : put1 f y p = p := by unfold put1; exact if_neg h
/-- The left bound of a row: no float's right edge is greater; it is one's, or none's. -/
theorem bnd_l (l : List Fo) (y : Int) : (∀ f ∈ l, hits f y → f.s = 1 → f.x1 ≤ (bnd l y).1) ∧ ((bnd l y).1 = -far ∨ ∃ f ∈ l, hits f y ∧ f.s = 1 ∧ f.x1 = (bnd l y).1) := by
  suffices h : ∀ (l : List Fo) (p : Int × Int), (∀ f ∈ l, hits f y → f.s = 1 → f.x1 ≤ (l.foldl (fun p f => put1 f y p) p).1) ∧ ((l.foldl (fun p f => put1 f y p) p).1 = p.1 ∨ ∃ f ∈ l, hits f y ∧ f.s = 1 ∧ f.x1 = (l.foldl (fun p f => put1 f y p) p).1) from h l _
  intro l
  induction l with
  | nil => intro p; exact ⟨fun f h => by simp at h, .inl rfl⟩
  | cons g l ih =>
    intro p
    rw [List.foldl_cons]
    obtain ⟨i1, i2⟩ := ih (put1 g y p)
    have hm := (fold_mono l y (put1 g y p)).1
    constructor
    · intro f hf hh hs
      rcases List.mem_cons.1 hf with rfl | hf
      · rw [put1_hit hh, if_pos hs] at hm ⊢
        simp only at hm
        omega
      · exact i1 f hf hh hs
    · rcases i2 with e | ⟨f, hf, hh, hs, e⟩
      · by_cases hg : hits g y ∧ g.s = 1
        · rw [put1_hit hg.1, if_pos hg.2] at e ⊢
          simp only at e
          by_cases c : g.x1 ≤ p.1
          · left; omega
          · right; exact ⟨g, List.mem_cons_self, hg.1, hg.2, by omega⟩
        · left
          rw [e]
          by_cases hh : hits g y
          · rw [put1_hit hh, if_neg (fun hs => hg ⟨hh, hs⟩)]
          · rw [put1_miss hh]
      · exact .inr ⟨f, List.mem_cons_of_mem _ hf, hh, hs, e⟩
theorem bnd_r (l : List Fo) (y : Int) : (∀ f ∈ l, hits f y → f.s ≠ 1 → (bnd l y).2 ≤ f.x0) ∧ ((bnd l y).2 = far ∨ ∃ f ∈ l, hits f y ∧ f.s ≠ 1 ∧ f.x0 = (bnd l y).2) := by
  suffices h : ∀ (l : List Fo) (p : Int × Int), (∀ f ∈ l, hits f y → f.s ≠ 1 → (l.foldl (fun p f => put1 f y p) p).2 ≤ f.x0) ∧ ((l.foldl (fun p f => put1 f y p) p).2 = p.2 ∨ ∃ f ∈ l, hits f y ∧ f.s ≠ 1 ∧ f.x0 = (l.foldl (fun p f => put1 f y p) p).2) from h l _
  intro l
  induction l with
  | nil => intro p; exact ⟨fun f h => by simp at h, .inl rfl⟩
  | cons g l ih =>
    intro p
    rw [List.foldl_cons]
    obtain ⟨i1, i2⟩ := ih (put1 g y p)
    have hm := (fold_mono l y (put1 g y p)).2
    constructor
    · intro f hf hh hs
      rcases List.mem_cons.1 hf with rfl | hf
      · rw [put1_hit hh, if_neg hs] at hm ⊢
        simp only at hm
        omega
      · exact i1 f hf hh hs
    · rcases i2 with e | ⟨f, hf, hh, hs, e⟩
      · by_cases hg : hits g y ∧ g.s ≠ 1
        · rw [put1_hit hg.1, if_neg hg.2] at e ⊢
          simp only at e
          by_cases c : p.2 ≤ g.x0
          · left; omega
          · right; exact ⟨g, List.mem_cons_self, hg.1, hg.2, by omega⟩
        · left
          rw [e]
          by_cases hh : hits g y
          · rw [put1_hit hh]
            by_cases hs : g.s = 1
            · rw [if_pos hs]
            · exact absurd ⟨hh, hs⟩ hg
          · rw [put1_miss hh]
      · exact .inr ⟨f, List.mem_cons_of_mem _ hf, hh, hs, e⟩
/-- Between rows between which no float begins or ends the same is free. -/
theorem bnd_same (l : List Fo) (a b : Int) (hab : a ≤ b) (h : ∀ f ∈ l, cnts f = true → ¬ (a < f.y0 ∧ f.y0 ≤ b) ∧ ¬ (a < f.y1 ∧ f.y1 ≤ b)) : bnd l a = bnd l b := by
  unfold bnd
  suffices hs : ∀ (l : List Fo) (p : Int × Int), (∀ f ∈ l, cnts f = true → ¬ (a < f.y0 ∧ f.y0 ≤ b) ∧ ¬ (a < f.y1 ∧ f.y1 ≤ b)) → l.foldl (fun p f => put1 f a p) p = l.foldl (fun p f => put1 f b p) p from hs l _ h
  intro l
  induction l with
  | nil => intro p _; rfl
  | cons g l ih =>
    intro p hl
    rw [List.foldl_cons, List.foldl_cons]
    have e : put1 g a p = put1 g b p := by
      unfold put1
      by_cases hc : cnts g = true
      · have := hl g List.mem_cons_self hc
        by_cases hh : g.y0 ≤ a ∧ a < g.y1
        · rw [if_pos (show cnts g = true ∧ g.y0 ≤ a ∧ a < g.y1 from ⟨hc, hh⟩), if_pos (show cnts g = true ∧ g.y0 ≤ b ∧ b < g.y1 from ⟨hc, by omega, by omega⟩)]
        · rw [if_neg (fun q => hh q.2), if_neg (fun q => hh ⟨by omega, by omega⟩)]
      · rw [if_neg (fun q => hc q.1), if_neg (fun q => hc q.1)]
    rw [e]
    exact ih _ fun f hf => hl f (List.mem_cons_of_mem _ hf)
/-- What is free hangs on no order, and on no second time. -/
theorem bnd_perm (l l' : List Fo) (h : ∀ f, f ∈ l ↔ f ∈ l') (y : Int) : bnd l y = bnd l' y := by
  obtain ⟨a1, a2⟩ := bnd_l l y
  obtain ⟨b1, b2⟩ := bnd_l l' y
  obtain ⟨c1, c2⟩ := bnd_r l y
  obtain ⟨d1, d2⟩ := bnd_r l' y
  have i1 := bnd_in l y
  have i2 := bnd_in l' y
  have e1 : (bnd l y).1 ≤ (bnd l' y).1 := by
    rcases a2 with e | ⟨f, hf, hh, hs, e⟩
    · omega
    · have := b1 f ((h f).1 hf) hh hs; omega
  have e2 : (bnd l' y).1 ≤ (bnd l y).1 := by
    rcases b2 with e | ⟨f, hf, hh, hs, e⟩
    · omega
    · have := a1 f ((h f).2 hf) hh hs; omega
  have e3 : (bnd l' y).2 ≤ (bnd l y).2 := by
    rcases c2 with e | ⟨f, hf, hh, hs, e⟩
    · omega
    · have := d1 f ((h f).1 hf) hh hs; omega
  have e4 : (bnd l y).2 ≤ (bnd l' y).2 := by
    rcases d2 with e | ⟨f, hf, hh, hs, e⟩
    · omega
    · have := c1 f ((h f).2 hf) hh hs; omega
  exact Prod.ext (by omega) (by omega)
/-- More floats leave no more free. -/
theorem bnd_more (l l' : List Fo) (h : ∀ f, f ∈ l → f ∈ l') (y : Int) : (bnd l y).1 ≤ (bnd l' y).1 ∧ (bnd l' y).2 ≤ (bnd l y).2 := by
  obtain ⟨a1, a2⟩ := bnd_l l y
  obtain ⟨b1, b2⟩ := bnd_l l' y
  obtain ⟨c1, c2⟩ := bnd_r l y
  obtain ⟨d1, d2⟩ := bnd_r l' y
  have i1 := bnd_in l y
  have i2 := bnd_in l' y
  constructor
  · rcases a2 with e | ⟨f, hf, hh, hs, e⟩
    · omega
    · have := b1 f (h f hf) hh hs; omega
  · rcases c2 with e | ⟨f, hf, hh, hs, e⟩
    · omega
    · have := d1 f (h f hf) hh hs; omega
theorem band_more {g g' : Int → Int × Int} {a b : Int} {p q : Int × Int} (h : IsBand g a b p) (k : IsBand g' a b q) (hm : ∀ y, (g y).1 ≤ (g' y).1 ∧ (g' y).2 ≤ (g y).2) : p.1 ≤ q.1 ∧ q.2 ≤ p.2 := by
  constructor
  · rcases h.l3 with e | ⟨z, z1, z2, e⟩
    · rw [e]; exact k.l1
    · have := k.l2 z z1 z2; have := hm z; omega
  · rcases h.r3 with e | ⟨z, z1, z2, e⟩
    · rw [e]; exact k.r1
    · have := k.r2 z z1 z2; have := hm z; omega
/-- Rows that lie among others. -/
theorem band_sub {g : Int → Int × Int} {a b c d : Int} {p q : Int × Int} (h : IsBand g a b p) (k : IsBand g c d q) (h1 : c ≤ a) (h2 : b ≤ d) : p.1 ≤ q.1 ∧ q.2 ≤ p.2 := by
  constructor
  · rcases h.l3 with e | ⟨z, z1, z2, e⟩
    · rw [e]; exact k.l1
    · have := k.l2 z (by omega) (by omega); omega
  · rcases h.r3 with e | ⟨z, z1, z2, e⟩
    · rw [e]; exact k.r1
    · have := k.r2 z (by omega) (by omega); omega
/-- The document's band: the first row, and those where a float begins. -/
def begins (l : List Fo) (a b : Int) : List Int := (l.map (·.y0)).filter fun y => decide (a < y ∧ y < b)
theorem ref_band (l : List Fo) (a b : Int) (hab : a < b) : IsBand (bnd l) a b ((begins l a b).foldl (fun p y => clipP p (bnd l y)) (bnd l a)) := by
  have hgen : ∀ (ys : List Int) (p : Int × Int), (∀ y ∈ ys, a ≤ y ∧ y < b) → (∃ z, a ≤ z ∧ z < b ∧ (bnd l z).1 = p.1) → (∃ z, a ≤ z ∧ z < b ∧ (bnd l z).2 = p.2) →
      (∃ z, a ≤ z ∧ z < b ∧ (bnd l z).1 = (ys.foldl (fun p y => clipP p (bnd l y)) p).1) ∧ (∃ z, a ≤ z ∧ z < b ∧ (bnd l z).2 = (ys.foldl (fun p y => clipP p (bnd l y)) p).2) ∧
      p.1 ≤ (ys.foldl (fun p y => clipP p (bnd l y)) p).1 ∧ (ys.foldl (fun p y => clipP p (bnd l y)) p).2 ≤ p.2 ∧
      ∀ y ∈ ys, (bnd l y).1 ≤ (ys.foldl (fun p y => clipP p (bnd l y)) p).1 ∧ (ys.foldl (fun p y => clipP p (bnd l y)) p).2 ≤ (bnd l y).2 := by
    intro ys
    induction ys with
    | nil => intro p _ h1 h2; exact ⟨h1, h2, Int.le_refl _, Int.le_refl _, fun y h => by simp at h⟩
    | cons y ys ih =>
      intro p hy h1 h2
      rw [List.foldl_cons]
      have hyy := hy y List.mem_cons_self
      have q1 : ∃ z, a ≤ z ∧ z < b ∧ (bnd l z).1 = (clipP p (bnd l y)).1 := by
        show ∃ z, a ≤ z ∧ z < b ∧ _ = max p.1 (bnd l y).1
        by_cases c : (bnd l y).1 ≤ p.1
        · rw [Int.max_eq_left c]; exact h1
        · rw [Int.max_eq_right (by omega)]; exact ⟨y, hyy.1, hyy.2, rfl⟩
      have q2 : ∃ z, a ≤ z ∧ z < b ∧ (bnd l z).2 = (clipP p (bnd l y)).2 := by
        show ∃ z, a ≤ z ∧ z < b ∧ _ = min p.2 (bnd l y).2
        by_cases c : p.2 ≤ (bnd l y).2
        · rw [Int.min_eq_left c]; exact h2
        · rw [Int.min_eq_right (by omega)]; exact ⟨y, hyy.1, hyy.2, rfl⟩
      obtain ⟨i1, i2, i3, i4, i5⟩ := ih _ (fun z hz => hy z (List.mem_cons_of_mem _ hz)) q1 q2
      have e1 : (clipP p (bnd l y)).1 = max p.1 (bnd l y).1 := rfl
      have e2 : (clipP p (bnd l y)).2 = min p.2 (bnd l y).2 := rfl
      refine ⟨i1, i2, by omega, by omega, fun z hz => ?_⟩
      rcases List.mem_cons.1 hz with rfl | hz
      · omega
      · exact i5 z hz
  have hmem : ∀ y, y ∈ begins l a b ↔ (∃ f ∈ l, f.y0 = y) ∧ a < y ∧ y < b := by
    intro y
    unfold begins
    rw [List.mem_filter, List.mem_map]
    simp
  obtain ⟨g1, g2, g3, g4, g5⟩ := hgen (begins l a b) (bnd l a) (fun y hy => by have := (hmem y).1 hy; omega) ⟨a, Int.le_refl _, hab, rfl⟩ ⟨a, Int.le_refl _, hab, rfl⟩
  have hia := bnd_in l a
  refine ⟨by omega, by omega, fun z z1 z2 => ?_, fun z z1 z2 => ?_, .inr g1, .inr g2⟩
  · obtain ⟨_, h2⟩ := bnd_l l z
    rcases h2 with e | ⟨f, hf, hh, hs, e⟩
    · omega
    · rw [← e]
      by_cases c : f.y0 ≤ a
      · have := (bnd_l l a).1 f hf ⟨hh.1, c, by have := hh.2.2; omega⟩ hs
        omega
      · have hy0 : f.y0 ≤ z := hh.2.1
        have hlt : f.y0 < f.y1 := by have := hh.2.2; omega
        have := (bnd_l l f.y0).1 f hf ⟨hh.1, Int.le_refl _, hlt⟩ hs
        have := (g5 f.y0 ((hmem _).2 ⟨⟨f, hf, rfl⟩, by omega, by omega⟩)).1
        omega
  · obtain ⟨_, h2⟩ := bnd_r l z
    rcases h2 with e | ⟨f, hf, hh, hs, e⟩
    · omega
    · rw [← e]
      by_cases c : f.y0 ≤ a
      · have := (bnd_r l a).1 f hf ⟨hh.1, c, by have := hh.2.2; omega⟩ hs
        omega
      · have hy0 : f.y0 ≤ z := hh.2.1
        have hlt : f.y0 < f.y1 := by have := hh.2.2; omega
        have := (bnd_r l f.y0).1 f hf ⟨hh.1, Int.le_refl _, hlt⟩ hs
        have := (g5 f.y0 ((hmem _).2 ⟨⟨f, hf, rfl⟩, by omega, by omega⟩)).2
        omega
end Go.Proofs.Ytecojcdmigmnhaa
