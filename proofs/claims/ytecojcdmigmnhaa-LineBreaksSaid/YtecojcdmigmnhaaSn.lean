/- The document's shelves, from edge to edge; how many shelves there are; the last one: plain. -/
import Derived.Test.YtecojcdmigmnhaaSf
namespace Go.Proofs.Ytecojcdmigmnhaa
set_option linter.unusedSimpArgs false
set_option linter.unusedVariables false
def isEdge (l : List Fo) (e : Int) : Prop := ∃ f ∈ l, cnts f = true ∧ (e = f.y0 ∨ e = f.y1)
/-- The least edge below a row, or none. -/
def IsNext (l : List Fo) (y : Int) (e : Int) (ok : Bool) : Prop :=
  (ok = true → isEdge l e ∧ y < e ∧ ∀ x, isEdge l x → y < x → e ≤ x) ∧ (ok = false → e = 0 ∧ ∀ x, isEdge l x → ¬ y < x)
theorem IsNext.unique {l : List Fo} {y e e' : Int} {ok ok' : Bool} (h : IsNext l y e ok) (k : IsNext l y e' ok') : e = e' ∧ ok = ok' := by
  cases ok <;> cases ok'
  · exact ⟨(h.2 rfl).1.trans (k.2 rfl).1.symm, rfl⟩
  · exact absurd (k.1 rfl).2.1 ((h.2 rfl).2 e' (k.1 rfl).1)
  · exact absurd (h.1 rfl).2.1 ((k.2 rfl).2 e (h.1 rfl).1)
  · have h1 := h.1 rfl
    have k1 := k.1 rfl
    have := h1.2.2 e' k1.1 k1.2.1
    have := k1.2.2 e h1.1 h1.2.1
    exact ⟨by omega, rfl⟩
/-- Between a row and the next edge the same is free. -/
theorem next_same {l : List Fo} {y e z : Int} {ok : Bool} (h : IsNext l y e ok) (hz : y ≤ z) (hze : ok = true → z < e) : bnd l y = bnd l z := by
  refine bnd_same l y z hz fun f hf hc => ⟨fun hh => ?_, fun hh => ?_⟩
  · have he : isEdge l f.y0 := ⟨f, hf, hc, .inl rfl⟩
    cases ok
    · exact (h.2 rfl).2 _ he hh.1
    · have := (h.1 rfl).2.2 _ he hh.1; have := hze rfl; omega
  · have he : isEdge l f.y1 := ⟨f, hf, hc, .inr rfl⟩
    cases ok
    · exact (h.2 rfl).2 _ he hh.1
    · have := (h.1 rfl).2.2 _ he hh.1; have := hze rfl; omega
/-- How many edges lie below a row. -/
def edges (l : List Fo) : List Int := l.flatMap fun f => [f.y0, f.y1]
def left_ (l : List Fo) (y : Int) : Nat := (edges l).countP fun e => decide (y < e)
theorem left_lt {l : List Fo} {y e : Int} (hlt : y < e) (he : isEdge l e) : left_ l e < left_ l y := by
  unfold left_
  have hm : e ∈ edges l := by
    obtain ⟨f, hf, _, h | h⟩ := he
    · unfold edges; rw [List.mem_flatMap]; exact ⟨f, hf, by simp [h]⟩
    · unfold edges; rw [List.mem_flatMap]; exact ⟨f, hf, by simp [h]⟩
  generalize edges l = es at *
  induction es with
  | nil => simp at hm
  | cons a es ih =>
    rw [List.countP_cons, List.countP_cons]
    have hmono : es.countP (fun x => decide (e < x)) ≤ es.countP (fun x => decide (y < x)) := by
      apply List.countP_mono_left
      intro x _ hx
      simp at hx ⊢
      omega
    rcases List.mem_cons.1 hm with rfl | hm
    · have h1 : decide (e < e) = false := by simp
      have h2 : decide (y < e) = true := by simpa using hlt
      rw [h1, h2]
      simp
      omega
    · have := ih hm
      by_cases c1 : e < a
      · have c2 : y < a := by omega
        simp [c1, c2]
        omega
      · by_cases c2 : y < a
        · simp [c1, c2]; omega
        · simp [c1, c2]; omega
def lastP (S : List Sh) : Int × Int := match S.getLast? with | none => (-far, far) | some s => (s.l, s.r)
theorem lastP_snoc (S : List Sh) (x : Sh) : lastP (S ++ [x]) = (x.l, x.r) := by simp [lastP]
theorem valS_snoc : ∀ (S : List Sh) (d : Int × Int) (x : Sh) (z : Int), (∀ s ∈ S, s.t < x.t) → valS d (S ++ [x]) z = if x.t ≤ z then (x.l, x.r) else valS d S z
  | [], d, x, z, _ => by simp [valS]
  | s :: S, d, x, z, h => by
    simp only [List.cons_append, valS]
    have hs := h s List.mem_cons_self
    by_cases hz : s.t ≤ z
    · rw [if_pos hz, if_pos hz]
      exact valS_snoc S _ x z fun y hy => h y (List.mem_cons_of_mem _ hy)
    · rw [if_neg hz, if_neg hz, if_neg (by omega)]
theorem valS_last : ∀ (S : List Sh) (d : Int × Int) (z : Int), (∀ s ∈ S, s.t ≤ z) → valS d S z = match S.getLast? with | none => d | some s => (s.l, s.r)
  | [], _, _, _ => rfl
  | [s], d, z, h => by simp only [valS]; rw [if_pos (h s List.mem_cons_self)]; rfl
  | s :: t :: S, d, z, h => by
    have := valS_last (t :: S) (s.l, s.r) z fun x hx => h x (List.mem_cons_of_mem _ hx)
    rw [valS, if_pos (h s List.mem_cons_self), this, List.getLast?_cons_cons, List.getLast?_cons]
theorem canon_snoc : ∀ (S : List Sh) (d : Int × Int) (x : Sh), Canon d S → (x.l, x.r) ≠ (match S.getLast? with | none => d | some s => (s.l, s.r)) → Canon d (S ++ [x])
  | [], d, x, _, h => ⟨h, trivial⟩
  | [s], d, x, hc, h => ⟨hc.1, h, trivial⟩
  | s :: t :: S, d, x, hc, h => ⟨hc.1, canon_snoc (t :: S) _ x hc.2 (by rw [List.getLast?_cons_cons, List.getLast?_cons] at h; rw [List.getLast?_cons]; exact h)⟩
/-- What stands when the document's shelves have come to an edge. -/
structure RefInv (l : List Fo) (S : List Sh) (y : Int) (ok : Bool) : Prop where
  sok : ShOk S
  edge : ok = true → isEdge l y ∧ -far < y ∧ ∀ s ∈ S, s.t < y
  val : ∀ z, -far ≤ z → (ok = true → z < y) → valS (-far, far) S z = bnd l z
theorem RefInv.start {l : List Fo} {y : Int} {ok : Bool} (h : IsNext l (-far) y ok) (hl : Lowish l) : RefInv l [] y ok := by
  refine ⟨ShOk.nil, fun e => ⟨(h.1 e).1, (h.1 e).2.1, fun s hs => by simp at hs⟩, fun z hz hzy => ?_⟩
  have h1 := next_same h hz hzy
  have h2 : bnd l (-far) = (-far, far) := by
    obtain ⟨_, a⟩ := bnd_l l (-far)
    obtain ⟨_, b⟩ := bnd_r l (-far)
    refine Prod.ext ?_ ?_
    · rcases a with a | ⟨f, hf, hh, _⟩
      · exact a
      · have := (hl f hf).1; have := hh.2.1; omega
    · rcases b with b | ⟨f, hf, hh, _⟩
      · exact b
      · have := (hl f hf).1; have := hh.2.1; omega
  rw [← h1, h2]
  rfl
theorem RefInv.step {l : List Fo} {S : List Sh} {y y' : Int} {ok' : Bool} (h : RefInv l S y true) (hn : IsNext l y y' ok') : RefInv l (if bnd l y = lastP S then S else S ++ [⟨y, (bnd l y).1, (bnd l y).2⟩]) y' ok' := by
  obtain ⟨he, hlow, htop⟩ := h.edge rfl
  have hlast : ∀ z, (∀ s ∈ S, s.t ≤ z) → valS (-far, far) S z = lastP S := fun z hz => valS_last S _ z hz
  by_cases hc : bnd l y = lastP S
  · rw [if_pos hc]
    refine ⟨h.sok, fun e => ⟨(hn.1 e).1, by have := (hn.1 e).2.1; omega, fun s hs => by have := htop s hs; have := (hn.1 e).2.1; omega⟩, fun z hz hzy => ?_⟩
    by_cases hzl : z < y
    · exact h.val z hz fun _ => hzl
    · rw [hlast z fun s hs => by have := htop s hs; omega, ← hc]
      exact next_same hn (by omega) hzy
  · rw [if_neg hc]
    refine ⟨⟨?_, ?_, canon_snoc S _ _ h.sok.can ?_⟩, fun e => ⟨(hn.1 e).1, by have := (hn.1 e).2.1; omega, fun s hs => ?_⟩, fun z hz hzy => ?_⟩
    · unfold Asc
      rw [List.pairwise_append]
      exact ⟨h.sok.asc, by simp, fun a ha b hb => by simp at hb; subst hb; exact htop a ha⟩
    · intro s hs
      rcases List.mem_append.1 hs with hs | hs
      · exact h.sok.low s hs
      · simp at hs; subst hs; exact hlow
    · exact hc
    · have hy := (hn.1 e).2.1
      rcases List.mem_append.1 hs with hs | hs
      · have := htop s hs; omega
      · simp at hs; subst hs; exact hy
    · rw [valS_snoc S _ _ z htop]
      by_cases hzl : y ≤ z
      · rw [if_pos hzl]
        exact next_same hn hzl hzy
      · rw [if_neg hzl]
        exact h.val z hz fun _ => by omega
theorem RefInv.done {l : List Fo} {S : List Sh} {y : Int} (h : RefInv l S y false) : IsShelves l S := ⟨h.sok, fun z hz => h.val z hz fun e => by cases e⟩
/-- How many shelves there are. -/
theorem cutS_length (S : List Sh) : ∀ (d : Int × Int) (y : Int), (cutS d S y).length ≤ S.length + 1 := by
  induction S with
  | nil => intro d y; simp [cutS]
  | cons s S ih =>
    intro d y
    unfold cutS
    split
    · have := ih (s.l, s.r) y; simp only [List.length_cons]; omega
    · split <;> simp only [List.length_cons] <;> omega
theorem compS_length (S : List Sh) : ∀ (d : Int × Int), (compS d S).length ≤ S.length := by
  induction S with
  | nil => intro d; exact Nat.le_refl _
  | cons s S ih =>
    intro d
    unfold compS
    split
    · have := ih d; simp only [List.length_cons]; omega
    · have := ih (s.l, s.r); simp only [List.length_cons]; omega
theorem addS_length (S : List Sh) (f : Fo) : (addS S f).length ≤ S.length + 2 := by
  unfold addS
  split
  · have h1 := compS_length ((cutS (-far, far) (cutS (-far, far) S f.y0) f.y1).map (upd f)) (-far, far)
    rw [List.length_map] at h1
    have h2 := cutS_length (cutS (-far, far) S f.y0) (-far, far) f.y1
    have h3 := cutS_length S (-far, far) f.y0
    omega
  · omega
theorem fold_length (l : List Fo) : ∀ S : List Sh, (l.foldl addS S).length ≤ S.length + 2 * l.length := by
  induction l with
  | nil => intro S; simp
  | cons f l ih =>
    intro S
    rw [List.foldl_cons]
    have := ih (addS S f)
    have := addS_length S f
    simp only [List.length_cons]
    omega
theorem shelves_length (l : List Fo) : (shelves l).length ≤ 2 * l.length := by have := fold_length l []; simpa [shelves] using this
theorem shelves_snoc (l : List Fo) (f : Fo) : shelves (l ++ [f]) = addS (shelves l) f := by simp [shelves]
/-- The last shelf is free. -/
theorem last_free {l : List Fo} {S : List Sh} (h : IsShelves l S) : lastP S = (-far, far) := by
  obtain ⟨B, hB1, hB2⟩ : ∃ B : Int, (∀ f ∈ l, f.y1 ≤ B) ∧ (-far ≤ B ∧ ∀ s ∈ S, s.t ≤ B) := by
    have e1 : ∀ l : List Fo, ∃ B : Int, -far ≤ B ∧ ∀ f ∈ l, f.y1 ≤ B := by
      intro l
      induction l with
      | nil => exact ⟨-far, Int.le_refl _, fun f h => by simp at h⟩
      | cons f l ih =>
        obtain ⟨B, h0, hB⟩ := ih
        refine ⟨max B f.y1, by omega, fun g hg => ?_⟩
        rcases List.mem_cons.1 hg with rfl | hg
        · omega
        · have := hB g hg; omega
    have e2 : ∀ S : List Sh, ∃ B : Int, ∀ s ∈ S, s.t ≤ B := by
      intro S
      induction S with
      | nil => exact ⟨0, fun f h => by simp at h⟩
      | cons f l ih =>
        obtain ⟨B, hB⟩ := ih
        refine ⟨max B f.t, fun g hg => ?_⟩
        rcases List.mem_cons.1 hg with rfl | hg
        · omega
        · have := hB g hg; omega
    obtain ⟨B1, h0, h1⟩ := e1 l
    obtain ⟨B2, h2⟩ := e2 S
    exact ⟨max B1 B2, fun f hf => by have := h1 f hf; omega, by omega, fun s hs => by have := h2 s hs; omega⟩
  have hv := h.val B hB2.1
  rw [valS_last S _ B hB2.2] at hv
  have hb : bnd l B = (-far, far) := by
    obtain ⟨_, a⟩ := bnd_l l B
    obtain ⟨_, b⟩ := bnd_r l B
    refine Prod.ext ?_ ?_
    · rcases a with a | ⟨f, hf, hh, _⟩
      · exact a
      · have := hB1 f hf; have := hh.2.2; omega
    · rcases b with b | ⟨f, hf, hh, _⟩
      · exact b
      · have := hB1 f hf; have := hh.2.2; omega
  rw [hb] at hv
  exact hv
/-- One float by itself. -/
theorem one_shelf (f : Fo) (h : cnts f = true) (hx0 : f.x0 < far) (hx1 : -far < f.x1) : shelves [f] = [if f.s = 1 then ⟨f.y0, f.x1, far⟩ else ⟨f.y0, -far, f.x0⟩, ⟨f.y1, -far, far⟩] := by
  have hc := h
  unfold cnts at hc
  simp only [decide_eq_true_eq] at hc
  have hfar : far = 4503599627370496 := rfl
  have e1 : cutS (-far, far) [] f.y0 = [⟨f.y0, -far, far⟩] := rfl
  have e2 : cutS (-far, far) [⟨f.y0, -far, far⟩] f.y1 = [⟨f.y0, -far, far⟩, ⟨f.y1, -far, far⟩] := by
    unfold cutS
    rw [if_pos (by show f.y0 < f.y1; omega)]
    rfl
  have u1 : upd f ⟨f.y0, -far, far⟩ = if f.s = 1 then ⟨f.y0, f.x1, far⟩ else ⟨f.y0, -far, f.x0⟩ := by
    unfold upd
    rw [if_pos (show f.y0 ≤ f.y0 ∧ f.y0 < f.y1 by omega)]
    split
    · simp only [Sh.mk.injEq, true_and, and_true]; omega
    · simp only [Sh.mk.injEq, true_and, and_true]; omega
  have u2 : upd f ⟨f.y1, -far, far⟩ = ⟨f.y1, -far, far⟩ := by
    unfold upd
    rw [if_neg (show ¬ (f.y0 ≤ f.y1 ∧ f.y1 < f.y1) by omega)]
  show addS [] f = _
  unfold addS
  rw [if_pos h, e1, e2, List.map_cons, List.map_cons, List.map_nil, u1, u2]
  by_cases hs : f.s = 1
  · rw [if_pos hs]
    have a1 : ¬ (f.x1, far) = (-far, far) := fun e => by have := congrArg Prod.fst e; simp only at this; omega
    have a2 : ¬ (-far, far) = (f.x1, far) := fun e => a1 e.symm
    simp only [compS, a1, a2, if_false]
  · rw [if_neg hs]
    have a1 : ¬ (-far, f.x0) = (-far, far) := fun e => by have := congrArg Prod.snd e; simp only at this; omega
    have a2 : ¬ (-far, far) = (-far, f.x0) := fun e => a1 e.symm
    simp only [compS, a1, a2, if_false]
theorem none_shelf (f : Fo) (h : cnts f = false) : shelves [f] = [] := by
  show addS [] f = _
  unfold addS
  rw [if_neg (by simp [h])]
end Go.Proofs.Ytecojcdmigmnhaa
