/- The highest place at which something is so, among shelves: plain. -/
import Derived.Test.YtecojcdmigmnhaaSp9
import Derived.Test.YtecojcdmigmnhaaSpp
namespace Go.Proofs.Ytecojcdmigmnhaa
set_option linter.unusedSimpArgs false
set_option linter.unusedVariables false
open Go.RowKit
/-- The highest place, from one on, at which something is so; what is asked. -/
def firstL (so : Int → Bool) : Int → List Sh → Int
  | y, [] => y
  | y, s :: S => if so y = true then y else firstL so s.t S
def askL (so : Int → Bool) : Int → List Sh → List Int
  | y, [] => [y]
  | y, s :: S => if so y = true then [y] else y :: askL so s.t S
theorem firstL_true {so : Int → Bool} {y : Int} (h : so y = true) (S : List Sh) : firstL so y S = y ∧ askL so y S = [y] := by
  cases S with
  | nil => exact ⟨rfl, rfl⟩
  | cons s S => simp [firstL, askL, h]
theorem firstL_false {so : Int → Bool} {y : Int} (h : so y = false) (s : Sh) (S : List Sh) : firstL so y (s :: S) = firstL so s.t S ∧ askL so y (s :: S) = y :: askL so s.t S := by simp [firstL, askL, h]
theorem ask_last (so : Int → Bool) : ∀ (S : List Sh) (y : Int), ∃ A, askL so y S = A ++ [firstL so y S]
  | [], y => ⟨[], rfl⟩
  | s :: S, y => by
    by_cases h : so y = true
    · rw [(firstL_true h _).1, (firstL_true h _).2]; exact ⟨[], rfl⟩
    · have h' : so y = false := by simpa using h
      obtain ⟨A, hA⟩ := ask_last so S s.t
      rw [(firstL_false h' s S).1, (firstL_false h' s S).2, hA]
      exact ⟨y :: A, rfl⟩
/-- The shelves that begin below a row. -/
def rest (F : List Sh) (y : Int) : List Sh := F.drop (below F y)
theorem asc_lt {F : List Sh} (h : Asc F) {i j : Nat} (hi : i < F.length) (hj : j < F.length) (hij : i < j) : F[i].t < F[j].t := List.pairwise_iff_getElem.1 h i j hi hj hij
theorem rest_nil {F : List Sh} {y : Int} (h : ¬ below F y < F.length) : rest F y = [] := List.drop_eq_nil_of_le (by omega)
theorem rest_cons {F : List Sh} {y : Int} (hs : Asc F) (h : below F y < F.length) : rest F y = shAt F (below F y) :: rest F (shAt F (below F y)).t := by
  have hb : below F (shAt F (below F y)).t = below F y + 1 := by
    rw [shAt_eq F _ h]
    obtain ⟨h1, h2⟩ := below_spec F F[below F y].t hs
    have h3 : ¬ below F F[below F y].t ≤ below F y := fun hh => by have := (h2 _ h).1 hh; omega
    rcases Nat.lt_or_ge (below F y + 1) F.length with h4 | h4
    · have := (h2 _ h4).2 (asc_lt hs h h4 (by omega))
      omega
    · omega
  unfold rest
  rw [hb, shAt_eq F _ h, ← List.getElem_cons_drop (h := h)]
theorem firstL_mem (so : Int → Bool) : ∀ (S : List Sh) (y : Int), firstL so y S = y ∨ ∃ s ∈ S, firstL so y S = s.t
  | [], _ => .inl rfl
  | s :: S, y => by
    by_cases h : so y = true
    · left; exact (firstL_true h _).1
    · right
      have h' : so y = false := by simpa using h
      rw [(firstL_false h' s S).1]
      rcases firstL_mem so S s.t with e | ⟨x, hx, e⟩
      · exact ⟨s, by simp, e⟩
      · exact ⟨x, by simp [hx], e⟩
theorem fold_tops (l : List Fo) : ∀ (S : List Sh), ∀ s ∈ l.foldl addS S, (∃ x ∈ S, s.t = x.t) ∨ ∃ f ∈ l, s.t = f.y0 ∨ s.t = f.y1 := by
  induction l with
  | nil => exact fun S s hs => .inl ⟨s, hs, rfl⟩
  | cons f l ih =>
    intro S s hs
    rw [List.foldl_cons] at hs
    rcases ih _ s hs with ⟨x, hx, e⟩ | ⟨g, hg, e⟩
    · have hx' : (∃ z ∈ S, x.t = z.t) ∨ x.t = f.y0 ∨ x.t = f.y1 := by
        unfold addS at hx
        split at hx
        · have h1 := compS_mem _ _ _ hx
          obtain ⟨u, hu, rfl⟩ := List.mem_map.1 h1
          rw [upd_t]
          rcases cutS_mem _ _ _ _ hu with h2 | h2
          · rcases cutS_mem _ _ _ _ h2 with h3 | h3
            · exact .inl ⟨u, h3, rfl⟩
            · exact .inr (.inl h3)
          · exact .inr (.inr h2)
        · exact .inl ⟨x, hx, rfl⟩
      rcases hx' with ⟨z, hz, e2⟩ | h2
      · exact .inl ⟨z, hz, e.trans e2⟩
      · exact .inr ⟨f, by simp, by rw [e]; exact h2⟩
    · exact .inr ⟨g, by simp [hg], e⟩
theorem tops_in (L : List Fo) : ∀ s ∈ shelves L, ∃ f ∈ L, s.t = f.y0 ∨ s.t = f.y1 := fun s hs => by
  rcases fold_tops L [] s hs with ⟨x, hx, _⟩ | h
  · simp at hx
  · exact h
/-- The highest place, from one on, at which something is so, row by row. -/
def IsFirst (so : Int → Bool) (y r : Int) : Prop := y ≤ r ∧ so r = true ∧ ∀ z, y ≤ z → so z = true → r ≤ z
theorem IsFirst.unique {so : Int → Bool} {y r r' : Int} (h : IsFirst so y r) (k : IsFirst so y r') : r = r' := by
  have h1 := h.2.2 r' k.1 k.2.1
  have h2 := k.2.2 r h.1 h.2.1
  omega
theorem valS_const : ∀ (S : List Sh) (d : Int × Int) (y z : Int), y ≤ z → (∀ s ∈ S, ¬ (y < s.t ∧ s.t ≤ z)) → valS d S y = valS d S z
  | [], _, _, _, _, _ => rfl
  | s :: S, d, y, z, hyz, h => by
    unfold valS
    have h0 := h s (by simp)
    by_cases hs : s.t ≤ y
    · rw [if_pos hs, if_pos (by omega)]
      exact valS_const S _ y z hyz fun x hx => h x (by simp [hx])
    · rw [if_neg hs, if_neg (by omega)]
theorem bnd_const {L : List Fo} (h : Lowish L) {y z : Int} (hy : -far ≤ y) (hyz : y ≤ z) (hn : ∀ s ∈ shelves L, ¬ (y < s.t ∧ s.t ≤ z)) : bnd L z = bnd L y := by
  have hi := shelves_is L h
  rw [← hi.val y hy, ← hi.val z (by omega)]
  exact (valS_const _ _ y z hyz hn).symm
theorem first_is {L : List Fo} (hl : Lowish L) {so : Int → Bool} (hm : ∀ y z, -far ≤ y → y ≤ z → (∀ x, y ≤ x → x ≤ z → bnd L x = bnd L y) → so z = true → so y = true) (hex : ∀ y, -far ≤ y → ∃ z, y ≤ z ∧ so z = true) :
    ∀ (n : Nat) (y : Int), (rest (full (shelves L)) y).length = n → -far ≤ y → IsFirst so y (firstL so y (rest (full (shelves L)) y)) := by
  have hasc : Asc (full (shelves L)) := full_asc (shelves_is L hl).ok
  intro n
  induction n with
  | zero =>
    intro y hn hy
    have hr : rest (full (shelves L)) y = [] := List.eq_nil_of_length_eq_zero hn
    have hno : ¬ below (full (shelves L)) y < (full (shelves L)).length := fun h => by
      rw [rest_cons hasc h] at hr
      cases hr
    have hb := below_spec (full (shelves L)) y hasc
    have hc : ∀ z, y ≤ z → bnd L z = bnd L y := fun z hz => bnd_const hl hy hz fun s hs hh => by
      obtain ⟨j, hj, e⟩ := List.mem_iff_getElem.1 (show s ∈ full (shelves L) from List.mem_cons_of_mem _ hs)
      have := (hb.2 j hj).2 (by rw [e]; exact hh.1)
      omega
    rw [hr]
    obtain ⟨z, hz, hsz⟩ := hex y hy
    exact ⟨Int.le_refl _, hm y z hy hz (fun x h1 _ => hc x h1) hsz, fun z hz _ => hz⟩
  | succ n ih =>
    intro y hn hy
    by_cases hlt : below (full (shelves L)) y < (full (shelves L)).length
    · have hb := below_spec (full (shelves L)) y hasc
      have hyt : y < (shAt (full (shelves L)) (below (full (shelves L)) y)).t := by rw [shAt_eq _ _ hlt]; exact (hb.2 _ hlt).1 (Nat.le_refl _)
      have hmin : ∀ s ∈ shelves L, y < s.t → (shAt (full (shelves L)) (below (full (shelves L)) y)).t ≤ s.t := fun s hs hys => by
        obtain ⟨j, hj, e⟩ := List.mem_iff_getElem.1 (show s ∈ full (shelves L) from List.mem_cons_of_mem _ hs)
        have h1 := (hb.2 j hj).2 (by rw [e]; exact hys)
        rw [shAt_eq _ _ hlt, ← e]
        rcases Nat.eq_or_lt_of_le h1 with h2 | h2
        · simp only [h2]; exact Int.le_refl _
        · exact Int.le_of_lt (asc_lt hasc hlt hj h2)
      have hrc := rest_cons hasc hlt
      rw [hrc] at hn ⊢
      by_cases hs : so y = true
      · rw [(firstL_true hs _).1]
        exact ⟨Int.le_refl _, hs, fun z hz _ => hz⟩
      · have hs' : so y = false := by simpa using hs
        rw [(firstL_false hs' _ _).1]
        have hI := ih _ (by simpa using hn) (by omega)
        refine ⟨by have := hI.1; omega, hI.2.1, fun z hz hsz => ?_⟩
        rcases Int.lt_or_le z (shAt (full (shelves L)) (below (full (shelves L)) y)).t with h | h
        · refine absurd (hm y z hy hz (fun x h1 h2 => bnd_const hl hy h1 fun s hs hh => ?_) hsz) hs
          have := hmin s hs hh.1
          omega
        · exact hI.2.2 z h hsz
    · rw [rest_nil hlt] at hn
      cases hn
/-- Bands whose rows are among others'. -/
theorem band_le {g : Int → Int × Int} {a b c d : Int} {p q : Int × Int} (h : IsBand g a b p) (k : IsBand g c d q) (hx : ∀ x, a ≤ x → x < b → ∃ z, c ≤ z ∧ z < d ∧ g z = g x) : p.1 ≤ q.1 ∧ q.2 ≤ p.2 := by
  constructor
  · rcases h.l3 with e | ⟨x, h1, h2, e⟩
    · rw [e]; exact k.l1
    · obtain ⟨z, z1, z2, ez⟩ := hx x h1 h2
      rw [← e, ← ez]
      exact k.l2 z z1 z2
  · rcases h.r3 with e | ⟨x, h1, h2, e⟩
    · rw [e]; exact k.r1
    · obtain ⟨z, z1, z2, ez⟩ := hx x h1 h2
      rw [← e, ← ez]
      exact k.r2 z z1 z2
theorem hgh_pos (h : Int) : 1 ≤ hgh h := by unfold hgh; omega
theorem bnds_mono {L : List Fo} {y z h : Int} (hyz : y ≤ z) (hc : ∀ x, y ≤ x → x ≤ z → bnd L x = bnd L y) : (bnds L y h).1 ≤ (bnds L z h).1 ∧ (bnds L z h).2 ≤ (bnds L y h).2 := by
  have hp := hgh_pos h
  refine band_le (band_is L y (y + hgh h)) (band_is L z (z + hgh h)) fun x h1 h2 => ?_
  rcases Int.lt_or_le z x with hh | hh
  · exact ⟨x, by omega, by omega, rfl⟩
  · exact ⟨z, by omega, by omega, (hc z hyz (Int.le_refl _)).trans (hc x h1 hh).symm⟩
theorem bnds_tall {L : List Fo} {y h k : Int} (hk : h ≤ k) : (bnds L y h).1 ≤ (bnds L y k).1 ∧ (bnds L y k).2 ≤ (bnds L y h).2 := by
  refine band_le (band_is L y (y + hgh h)) (band_is L y (y + hgh k)) fun x h1 h2 => ⟨x, h1, ?_, rfl⟩
  unfold hgh at h2 ⊢
  omega
theorem bnd_beyond {L : List Fo} {z : Int} (h : ∀ f ∈ L, f.y1 ≤ z) : bnd L z = (-far, far) := by
  unfold bnd
  induction L with
  | nil => rfl
  | cons f l ih =>
    rw [List.foldl_cons, put1_miss (fun hh => by have := hh.2.2; have := h f (by simp); omega)]
    exact ih fun g hg => h g (by simp [hg])
theorem bnds_beyond {L : List Fo} {z h : Int} (hz : ∀ f ∈ L, f.y1 ≤ z) : bnds L z h = (-far, far) := by
  have hp := hgh_pos h
  refine IsBand.unique (band_is L z (z + hgh h)) (IsBand.const (by omega) (fun x h1 _ => bnd_beyond fun f hf => ?_) (by decide))
  have := hz f hf
  omega
theorem beyond (L : List Fo) (y : Int) : ∃ z, y ≤ z ∧ ∀ f ∈ L, f.y1 ≤ z := by
  induction L with
  | nil => exact ⟨y, Int.le_refl _, fun f hf => by simp at hf⟩
  | cons f l ih =>
    obtain ⟨z, h1, h2⟩ := ih
    refine ⟨max z f.y1, by omega, fun g hg => ?_⟩
    rcases List.mem_cons.1 hg with rfl | hg
    · omega
    · have := h2 g hg; omega
/-- What Avoid asks at a height. -/
def soA (L : List Fo) (a b wd h : Int) (y : Int) : Bool := decide (wd ≤ (freeS L a b y h).2 - (freeS L a b y h).1 ∨ (b - a < wd ∧ (bnds L y h).1 ≤ a ∧ a + wd ≤ (bnds L y h).2))
theorem soA_mono {L : List Fo} {a b wd h y z : Int} (hyz : y ≤ z) (hc : ∀ x, y ≤ x → x ≤ z → bnd L x = bnd L y) (hs : soA L a b wd h z = true) : soA L a b wd h y = true := by
  have hm := bnds_mono (h := h) hyz hc
  unfold soA freeS at hs ⊢
  simp only [decide_eq_true_eq] at hs ⊢
  omega
theorem soA_far {L : List Fo} {a b wd h z : Int} (hz : ∀ f ∈ L, f.y1 ≤ z) (ha : -far ≤ a) (hb : b ≤ far) (hw : a + wd ≤ far) : soA L a b wd h z = true := by
  unfold soA freeS
  rw [bnds_beyond hz]
  simp only [decide_eq_true_eq]
  omega
theorem soA_first {L : List Fo} (hl : Lowish L) {a b wd h y : Int} (hy : -far ≤ y) (ha : -far ≤ a) (hb : b ≤ far) (hw : a + wd ≤ far) : IsFirst (soA L a b wd h) y (firstL (soA L a b wd h) y (rest (full (shelves L)) y)) :=
  first_is hl (fun _ _ _ h1 h2 h3 => soA_mono h1 h2 h3) (fun y _ => by
    obtain ⟨z, h1, h2⟩ := beyond L y
    exact ⟨z, h1, soA_far h2 ha hb hw⟩) _ y rfl hy
end Go.Proofs.Ytecojcdmigmnhaa
