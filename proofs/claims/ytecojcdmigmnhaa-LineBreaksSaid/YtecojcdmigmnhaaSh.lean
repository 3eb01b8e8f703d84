/- Shelves: plain. -/
namespace Go.Proofs.Ytecojcdmigmnhaa
set_option linter.unusedSimpArgs false
set_option linter.unusedVariables false
/-- A shelf: its top, and its bounds. -/
structure Sh where
  (t l r : Int)
/-- A float: its side, and its left, top, right, bottom. -/
structure Fo where
  (s x0 y0 x1 y1 : Int)
def far : Int := 4503599627370496
def cnts (f : Fo) : Bool := decide (f.x0 < f.x1 ∧ f.y0 < f.y1 ∧ (f.s = 1 ∨ f.s = 2))
/-- What a float leaves of what is free in a row. -/
def put1 (f : Fo) (y : Int) (p : Int × Int) : Int × Int :=
  if cnts f = true ∧ f.y0 ≤ y ∧ y < f.y1 then (if f.s = 1 then (max p.1 f.x1, p.2) else (p.1, min p.2 f.x0)) else p
/-- What floats leave free in a row. -/
def bnd (l : List Fo) (y : Int) : Int × Int := l.foldl (fun p f => put1 f y p) (-far, far)
/-- What shelves leave free in a row. -/
def valS : Int × Int → List Sh → Int → Int × Int
  | d, [], _ => d
  | d, s :: S, y => if s.t ≤ y then valS (s.l, s.r) S y else d
def Asc (S : List Sh) : Prop := S.Pairwise fun a b => a.t < b.t
/-- Each shelf has other bounds than the one ahead. -/
def Canon : Int × Int → List Sh → Prop
  | _, [] => True
  | d, s :: S => (s.l, s.r) ≠ d ∧ Canon (s.l, s.r) S
theorem Asc.tail {s : Sh} {S : List Sh} (h : Asc (s :: S)) : Asc S := (List.pairwise_cons.1 h).2
theorem Asc.head {s : Sh} {S : List Sh} (h : Asc (s :: S)) : ∀ x ∈ S, s.t < x.t := (List.pairwise_cons.1 h).1
theorem valS_low {d : Int × Int} {S : List Sh} {y : Int} (h : ∀ x ∈ S, y < x.t) : valS d S y = d := by
  cases S with
  | nil => rfl
  | cons s S =>
    unfold valS
    rw [if_neg (by have := h s List.mem_cons_self; omega)]
/-- Shelves that leave the same free are the same. -/
theorem shelves_unique : ∀ (S T : List Sh) (d : Int × Int), Asc S → Asc T → Canon d S → Canon d T → (∀ y, valS d S y = valS d T y) → S = T
  | [], [], _, _, _, _, _, _ => rfl
  | [], t :: T, d, _, hT, _, cT, h => by
    have := h t.t
    simp only [valS, Int.le_refl, if_true] at this
    rw [valS_low (fun x hx => hT.head x hx)] at this
    exact absurd this.symm cT.1
  | s :: S, [], d, hS, _, cS, _, h => by
    have := h s.t
    simp only [valS, Int.le_refl, if_true] at this
    rw [valS_low (fun x hx => hS.head x hx)] at this
    exact absurd this cS.1
  | s :: S, t :: T, d, hS, hT, cS, cT, h => by
    rcases Int.lt_trichotomy s.t t.t with hlt | heq | hgt
    · have := h s.t
      simp only [valS, Int.le_refl, if_true] at this
      rw [valS_low (fun x hx => hS.head x hx), if_neg (by omega)] at this
      exact absurd this cS.1
    · have h1 := h s.t
      simp only [valS, Int.le_refl, if_true] at h1
      rw [valS_low (fun x hx => hS.head x hx), if_pos (by omega), valS_low (fun x hx => by have := hT.head x hx; omega)] at h1
      have e : s = t := by
        obtain ⟨a, b, c⟩ := s
        obtain ⟨a', b', c'⟩ := t
        simp only [Prod.mk.injEq] at h1 heq
        simp only [Sh.mk.injEq]
        exact ⟨heq, h1.1, h1.2⟩
      subst e
      congr 1
      refine shelves_unique S T (s.l, s.r) hS.tail hT.tail cS.2 cT.2 fun y => ?_
      have h2 := h y
      simp only [valS] at h2
      by_cases hy : s.t ≤ y
      · rw [if_pos hy, if_pos hy] at h2; exact h2
      · rw [valS_low (fun x hx => by have := hS.head x hx; omega), valS_low (fun x hx => by have := hT.head x hx; omega)]
    · have := h t.t
      simp only [valS, Int.le_refl, if_true] at this
      rw [valS_low (d := (t.l, t.r)) (fun x hx => hT.head x hx), if_neg (by omega)] at this
      exact absurd this.symm cT.1
/-- A shelf begins at a row. -/
def cutS : Int × Int → List Sh → Int → List Sh
  | d, [], y => [⟨y, d.1, d.2⟩]
  | d, s :: S, y => if s.t < y then s :: cutS (s.l, s.r) S y else if s.t = y then s :: S else ⟨y, d.1, d.2⟩ :: s :: S
theorem cutS_val : ∀ (S : List Sh) (d : Int × Int) (y z : Int), Asc S → valS d (cutS d S y) z = valS d S z
  | [], d, y, z, _ => by
    simp only [cutS, valS]
    split <;> rfl
  | s :: S, d, y, z, h => by
    unfold cutS
    by_cases h1 : s.t < y
    · rw [if_pos h1]
      simp only [valS]
      rw [cutS_val S _ y z h.tail]
    · rw [if_neg h1]
      by_cases h2 : s.t = y
      · rw [if_pos h2]
      · rw [if_neg h2]
        simp only [valS]
        by_cases h3 : y ≤ z
        · rw [if_pos h3]
        · rw [if_neg h3, if_neg (by omega)]
theorem cutS_mem (S : List Sh) : ∀ (d : Int × Int) (y : Int) (x : Sh), x ∈ cutS d S y → x ∈ S ∨ x.t = y := by
  induction S with
  | nil => intro d y x h; simp [cutS] at h; right; rw [h]
  | cons s S ih =>
    intro d y x h
    unfold cutS at h
    split at h
    · rcases List.mem_cons.1 h with rfl | h
      · exact .inl List.mem_cons_self
      · rcases ih _ _ _ h with h | h
        · exact .inl (List.mem_cons_of_mem _ h)
        · exact .inr h
    · split at h
      · exact .inl h
      · rcases List.mem_cons.1 h with rfl | h
        · exact .inr rfl
        · exact .inl h
theorem cutS_mem' (S : List Sh) : ∀ (d : Int × Int) (y : Int) (x : Sh), x ∈ S → x ∈ cutS d S y := by
  induction S with
  | nil => intro d y x h; simp at h
  | cons s S ih =>
    intro d y x h
    unfold cutS
    split
    · rcases List.mem_cons.1 h with rfl | h
      · exact List.mem_cons_self
      · exact List.mem_cons_of_mem _ (ih _ _ _ h)
    · split
      · exact h
      · exact List.mem_cons_of_mem _ h
theorem cutS_has (S : List Sh) : ∀ (d : Int × Int) (y : Int), ∃ x ∈ cutS d S y, x.t = y := by
  induction S with
  | nil => intro d y; exact ⟨_, List.mem_cons_self, rfl⟩
  | cons s S ih =>
    intro d y
    unfold cutS
    split
    · obtain ⟨x, hx, e⟩ := ih (s.l, s.r) y
      exact ⟨x, List.mem_cons_of_mem _ hx, e⟩
    · split
      · exact ⟨s, List.mem_cons_self, by assumption⟩
      · exact ⟨_, List.mem_cons_self, rfl⟩
theorem cutS_asc : ∀ (S : List Sh) (d : Int × Int) (y : Int), Asc S → Asc (cutS d S y)
  | [], d, y, _ => by simp [cutS, Asc]
  | s :: S, d, y, h => by
    unfold cutS
    by_cases h1 : s.t < y
    · rw [if_pos h1]
      refine List.pairwise_cons.2 ⟨fun x hx => ?_, cutS_asc S _ y h.tail⟩
      rcases cutS_mem S _ y x hx with hx | hx
      · exact h.head x hx
      · omega
    · rw [if_neg h1]
      by_cases h2 : s.t = y
      · rw [if_pos h2]; exact h
      · rw [if_neg h2]
        refine List.pairwise_cons.2 ⟨fun x hx => ?_, h⟩
        rcases List.mem_cons.1 hx with rfl | hx
        · show y < _; omega
        · have := h.head x hx; show y < _; omega
/-- What a float leaves of a shelf. -/
def upd (f : Fo) (s : Sh) : Sh := if f.y0 ≤ s.t ∧ s.t < f.y1 then (if f.s = 1 then ⟨s.t, max s.l f.x1, s.r⟩ else ⟨s.t, s.l, min s.r f.x0⟩) else s
theorem upd_t (f : Fo) (s : Sh) : (upd f s).t = s.t := by unfold upd; split <;> (try split) <;> rfl
def pairU (f : Fo) (t : Int) (p : Int × Int) : Int × Int := if f.y0 ≤ t ∧ t < f.y1 then (if f.s = 1 then (max p.1 f.x1, p.2) else (p.1, min p.2 f.x0)) else p
theorem upd_pair (f : Fo) (s : Sh) : ((upd f s).l, (upd f s).r) = pairU f s.t (s.l, s.r) := by unfold upd pairU; split <;> (try split) <;> rfl
/-- Where shelves begin at both rows of a float, it leaves of what they leave free what it leaves of it row by row. -/
theorem upd_val (f : Fo) : ∀ (S : List Sh) (d : Int × Int) (a z : Int), Asc S → (∀ x ∈ S, a < x.t) → a ≤ z → (∀ x ∈ S, True) →
    ((∃ x ∈ S, x.t = f.y0) ∨ f.y0 ≤ a) → ((∃ x ∈ S, x.t = f.y1) ∨ f.y1 ≤ a) → valS (pairU f a d) (S.map (upd f)) z = pairU f z (valS d S z)
  | [], d, a, z, _, _, haz, _, h0, h1 => by
    have h0' : f.y0 ≤ a := by rcases h0 with ⟨x, hx, _⟩ | h; · simp at hx
                              · exact h
    have h1' : f.y1 ≤ a := by rcases h1 with ⟨x, hx, _⟩ | h; · simp at hx
                              · exact h
    simp only [List.map_nil, valS]
    unfold pairU
    rw [if_neg (by omega), if_neg (by omega)]
  | s :: S, d, a, z, h, ha, haz, _, h0, h1 => by
    simp only [List.map_cons, valS, upd_t, upd_pair]
    by_cases hz : s.t ≤ z
    · rw [if_pos hz, if_pos hz]
      refine upd_val f S (s.l, s.r) s.t z h.tail (fun x hx => h.head x hx) hz (fun _ _ => trivial) ?_ ?_
      · rcases h0 with ⟨x, hx, e⟩ | h0
        · rcases List.mem_cons.1 hx with rfl | hx
          · right; omega
          · exact .inl ⟨x, hx, e⟩
        · right; have := ha s List.mem_cons_self; omega
      · rcases h1 with ⟨x, hx, e⟩ | h1
        · rcases List.mem_cons.1 hx with rfl | hx
          · right; omega
          · exact .inl ⟨x, hx, e⟩
        · right; have := ha s List.mem_cons_self; omega
    · rw [if_neg hz, if_neg hz]
      -- between a and the next shelf no edge of the float lies
      have e0 : f.y0 ≤ a ↔ f.y0 ≤ z := by
        constructor
        · omega
        · intro hh
          rcases h0 with ⟨x, hx, e⟩ | h0
          · rcases List.mem_cons.1 hx with rfl | hx
            · omega
            · have := h.head x hx; omega
          · exact h0
      have e1 : a < f.y1 ↔ z < f.y1 := by
        constructor
        · intro hh
          rcases h1 with ⟨x, hx, e⟩ | h1
          · rcases List.mem_cons.1 hx with rfl | hx
            · omega
            · have := h.head x hx; omega
          · omega
        · omega
      unfold pairU
      by_cases hc : f.y0 ≤ a ∧ a < f.y1
      · rw [if_pos hc, if_pos (show f.y0 ≤ z ∧ z < f.y1 from ⟨e0.1 hc.1, e1.1 hc.2⟩)]
      · rw [if_neg hc, if_neg (fun hh => hc ⟨e0.2 hh.1, e1.2 hh.2⟩)]
/-- Shelves with the same bounds as the one ahead are struck. -/
def compS : Int × Int → List Sh → List Sh
  | _, [] => []
  | d, s :: S => if (s.l, s.r) = d then compS d S else s :: compS (s.l, s.r) S
theorem compS_mem (S : List Sh) : ∀ (d : Int × Int) (x : Sh), x ∈ compS d S → x ∈ S := by
  induction S with
  | nil => intro d x h; exact h
  | cons s S ih =>
    intro d x h
    unfold compS at h
    split at h
    · exact List.mem_cons_of_mem _ (ih _ _ h)
    · rcases List.mem_cons.1 h with rfl | h
      · exact List.mem_cons_self
      · exact List.mem_cons_of_mem _ (ih _ _ h)
theorem compS_asc : ∀ (S : List Sh) (d : Int × Int), Asc S → Asc (compS d S)
  | [], _, h => h
  | s :: S, d, h => by
    unfold compS
    split
    · exact compS_asc S d h.tail
    · exact List.pairwise_cons.2 ⟨fun x hx => h.head x (compS_mem S _ x hx), compS_asc S _ h.tail⟩
theorem compS_canon (S : List Sh) : ∀ (d : Int × Int), Canon d (compS d S) := by
  induction S with
  | nil => intro d; trivial
  | cons s S ih =>
    intro d
    unfold compS
    split
    · exact ih d
    · exact ⟨by assumption, ih _⟩
theorem compS_val : ∀ (S : List Sh) (d : Int × Int) (z : Int), Asc S → valS d (compS d S) z = valS d S z
  | [], _, _, _ => rfl
  | s :: S, d, z, h => by
    unfold compS
    by_cases e : (s.l, s.r) = d
    · rw [if_pos e, compS_val S d z h.tail]
      simp only [valS, e]
      by_cases hz : s.t ≤ z
      · rw [if_pos hz]
      · rw [if_neg hz]
        exact valS_low fun x hx => by have := h.head x hx; omega
    · rw [if_neg e]
      simp only [valS]
      rw [compS_val S _ z h.tail]
/-- The shelves below the first one. -/
def addS (S : List Sh) (f : Fo) : List Sh :=
  if cnts f = true then compS (-far, far) ((cutS (-far, far) (cutS (-far, far) S f.y0) f.y1).map (upd f)) else S
/-- Shelves below the first one, which is free. -/
structure ShOk (S : List Sh) : Prop where
  asc : Asc S
  low : ∀ x ∈ S, -far < x.t
  can : Canon (-far, far) S
theorem ShOk.nil : ShOk [] := ⟨List.Pairwise.nil, fun x h => by simp at h, trivial⟩
theorem pairU_low {f : Fo} (h : -far < f.y0) (d : Int × Int) : pairU f (-far) d = d := by unfold pairU; rw [if_neg (by omega)]
theorem cut2_low {S : List Sh} {f : Fo} (h : ∀ x ∈ S, -far < x.t) (h0 : -far < f.y0) (h1 : -far < f.y1) : ∀ x ∈ cutS (-far, far) (cutS (-far, far) S f.y0) f.y1, -far < x.t := fun x hx => by
  rcases cutS_mem _ _ _ _ hx with hx | hx
  · rcases cutS_mem _ _ _ _ hx with hx | hx
    · exact h x hx
    · omega
  · omega
theorem addS_ok {S : List Sh} {f : Fo} (h : ShOk S) (h0 : -far < f.y0) (h1 : -far < f.y1) : ShOk (addS S f) := by
  unfold addS
  split
  · have ha : Asc ((cutS (-far, far) (cutS (-far, far) S f.y0) f.y1).map (upd f)) := by
      unfold Asc
      rw [List.pairwise_map]
      exact (cutS_asc _ _ _ (cutS_asc _ _ _ h.asc)).imp fun hab => by rw [upd_t, upd_t]; exact hab
    refine ⟨compS_asc _ _ ha, fun x hx => ?_, compS_canon _ _⟩
    have hx := compS_mem _ _ _ hx
    rw [List.mem_map] at hx
    obtain ⟨y, hy, rfl⟩ := hx
    rw [upd_t]
    exact cut2_low h.low h0 h1 y hy
  · exact h
theorem addS_val {S : List Sh} {f : Fo} (h : ShOk S) (h0 : -far < f.y0) (h1 : -far < f.y1) (z : Int) (hz : -far ≤ z) : valS (-far, far) (addS S f) z = put1 f z (valS (-far, far) S z) := by
  unfold addS put1
  by_cases hc : cnts f = true
  · have ha1 := cutS_asc S (-far, far) f.y0 h.asc
    have ha2 := cutS_asc _ (-far, far) f.y1 ha1
    have ha : Asc ((cutS (-far, far) (cutS (-far, far) S f.y0) f.y1).map (upd f)) := by
      unfold Asc
      rw [List.pairwise_map]
      exact ha2.imp fun hab => by rw [upd_t, upd_t]; exact hab
    rw [if_pos hc, compS_val _ _ z ha]
    have hu := upd_val f _ (-far, far) (-far) z ha2 (cut2_low h.low h0 h1) hz (fun _ _ => trivial) (.inl ?_) (.inl (cutS_has _ _ _))
    · rw [pairU_low h0] at hu
      rw [hu, cutS_val _ _ _ _ ha1, cutS_val _ _ _ _ h.asc]
      unfold pairU
      by_cases hh : f.y0 ≤ z ∧ z < f.y1
      · rw [if_pos hh, if_pos (show cnts f = true ∧ f.y0 ≤ z ∧ z < f.y1 from ⟨hc, hh⟩)]
      · rw [if_neg hh, if_neg (fun q => hh q.2)]
    · obtain ⟨x, hx, e⟩ := cutS_has S (-far, far) f.y0
      exact ⟨x, cutS_mem' _ _ _ _ hx, e⟩
  · rw [if_neg hc, if_neg (fun q => hc q.1)]
/-- The shelves of floats. -/
def shelves (l : List Fo) : List Sh := l.foldl addS []
def Lowish (l : List Fo) : Prop := ∀ f ∈ l, -far < f.y0 ∧ -far < f.y1
theorem fold_ok (l : List Fo) : ∀ (S : List Sh), ShOk S → Lowish l → ShOk (l.foldl addS S) := by
  induction l with
  | nil => intro S h _; exact h
  | cons f l ih =>
    intro S h hl
    have hf := hl f List.mem_cons_self
    exact ih _ (addS_ok h hf.1 hf.2) fun g hg => hl g (List.mem_cons_of_mem _ hg)
theorem fold_val (l : List Fo) (z : Int) (hz : -far ≤ z) : ∀ (S : List Sh), ShOk S → Lowish l → valS (-far, far) (l.foldl addS S) z = l.foldl (fun p f => put1 f z p) (valS (-far, far) S z) := by
  induction l with
  | nil => intro S h _; rfl
  | cons f l ih =>
    intro S h hl
    have hf := hl f List.mem_cons_self
    rw [List.foldl_cons, List.foldl_cons, ih _ (addS_ok h hf.1 hf.2) fun g hg => hl g (List.mem_cons_of_mem _ hg), addS_val h hf.1 hf.2 z hz]
/-- Shelves that are those of floats. -/
structure IsShelves (l : List Fo) (S : List Sh) : Prop where
  ok : ShOk S
  val : ∀ z, -far ≤ z → valS (-far, far) S z = bnd l z
theorem shelves_is (l : List Fo) (h : Lowish l) : IsShelves l (shelves l) := ⟨fold_ok l [] ShOk.nil h, fun z hz => fold_val l z hz [] ShOk.nil h⟩
theorem is_unique {l l' : List Fo} {S T : List Sh} (h : IsShelves l S) (h' : IsShelves l' T) (e : ∀ z, -far ≤ z → bnd l z = bnd l' z) : S = T := by
  refine shelves_unique S T (-far, far) h.ok.asc h'.ok.asc h.ok.can h'.ok.can fun y => ?_
  by_cases hy : -far ≤ y
  · rw [h.val y hy, h'.val y hy, e y hy]
  · rw [valS_low fun x hx => by have := h.ok.low x hx; omega, valS_low fun x hx => by have := h'.ok.low x hx; omega]
end Go.Proofs.Ytecojcdmigmnhaa
