/- Wants, plain: a box that no float may reach into (Wa), a float that is to be placed (Wp). -/
import Derived.Test.YtecojcdmigmnhaaFst
namespace Go.Proofs.Ytecojcdmigmnhaa
set_option linter.unusedSimpArgs false
set_option linter.unusedVariables false
open Go.RowKit
structure Wa where
  a : Int
  b : Int
  wd : Int
  h : Int
  y : Int
structure Wp where
  s : Int
  c : Int
  a : Int
  b : Int
  wd : Int
  h : Int
  y : Int
def in48 (n : Int) : Prop := -281474976710656 ≤ n ∧ n ≤ 281474976710656
instance (n : Int) : Decidable (in48 n) := by unfold in48; exact inferInstance
def okWa (q : Wa) : Bool := decide ((in48 q.a ∧ in48 q.b ∧ in48 q.wd ∧ in48 q.h ∧ in48 q.y) ∧ 0 ≤ q.wd)
def nr49 (c : Int) : Bool := decide (-562949953421312 ≤ c ∧ c ≤ 562949953421312)
def nearF (f : Fo) : Bool := (nr49 f.x0 && nr49 f.y0 && nr49 f.x1 && nr49 f.y1) && decide (f.s = 1 ∨ f.s = 2)
def nearB (L : List Fo) : Bool := L.all nearF
theorem nearF_at {f : Fo} (h : nearF f = true) : (-562949953421312 ≤ f.x0 ∧ f.x0 ≤ 562949953421312) ∧ (-562949953421312 ≤ f.y0 ∧ f.y0 ≤ 562949953421312) ∧ (-562949953421312 ≤ f.x1 ∧ f.x1 ≤ 562949953421312) ∧ (-562949953421312 ≤ f.y1 ∧ f.y1 ≤ 562949953421312) ∧ (f.s = 1 ∨ f.s = 2) := by
  unfold nearF nr49 at h
  simp only [Bool.and_eq_true, decide_eq_true_eq] at h
  obtain ⟨⟨⟨⟨h0, h1⟩, h2⟩, h3⟩, h4⟩ := h
  exact ⟨h0, h1, h2, h3, h4⟩
theorem nearB_at {L : List Fo} (h : nearB L = true) : ∀ f ∈ L, nearF f = true := List.all_eq_true.1 h
theorem near_small {f : Fo} (h : nearF f = true) : smallF f = true := by
  obtain ⟨h0, h1, h2, h3, _⟩ := nearF_at h
  unfold smallF smallR smI
  simp only [Bool.and_eq_true, decide_eq_true_eq]
  omega
theorem bnd_edge {L : List Fo} (hs : ∀ f ∈ L, smallF f = true) (z : Int) : (-far ≤ (bnd L z).1 ∧ (bnd L z).1 < 2251799813685248) ∧ (-2251799813685248 < (bnd L z).2 ∧ (bnd L z).2 ≤ far) := by
  have hsm : ∀ f ∈ L, (-2251799813685248 < f.x0 ∧ f.x0 < 2251799813685248) ∧ (-2251799813685248 < f.x1 ∧ f.x1 < 2251799813685248) := fun f hf => by
    have := hs f hf
    unfold smallF smallR smI at this
    simp only [Bool.and_eq_true, decide_eq_true_eq] at this
    omega
  have hi := bnd_in L z
  refine ⟨⟨hi.1, ?_⟩, ?_, hi.2⟩
  · rcases (bnd_l L z).2 with e | ⟨f, hf, _, _, e⟩
    · rw [e]; decide
    · rw [← e]; exact (hsm f hf).2.2
  · rcases (bnd_r L z).2 with e | ⟨f, hf, _, _, e⟩
    · rw [e]; decide
    · rw [← e]; exact (hsm f hf).1.1
theorem bnds_edge {L : List Fo} (hs : ∀ f ∈ L, smallF f = true) (y h : Int) : (-far ≤ (bnds L y h).1 ∧ (bnds L y h).1 < 2251799813685248) ∧ (-2251799813685248 < (bnds L y h).2 ∧ (bnds L y h).2 ≤ far) := by
  have hb := band_is L y (y + hgh h)
  refine ⟨⟨hb.l1, ?_⟩, ?_, hb.r1⟩
  · rcases hb.l3 with e | ⟨z, _, _, e⟩
    · rw [show (bnds L y h).1 = -far from e]; decide
    · rw [show (bnds L y h).1 = (bnd L z).1 from e.symm]; exact (bnd_edge hs z).1.2
  · rcases hb.r3 with e | ⟨z, _, _, e⟩
    · rw [show (bnds L y h).2 = far from e]; decide
    · rw [show (bnds L y h).2 = (bnd L z).2 from e.symm]; exact (bnd_edge hs z).2.1
def soW (L : List Fo) (q : Wa) : Int → Bool := soA L q.a q.b q.wd q.h
def topA (L : List Fo) (q : Wa) : Int := firstL (soW L q) q.y (rest (full (shelves L)) q.y)
def leftA (L : List Fo) (q : Wa) (y : Int) : Int := (freeS L q.a q.b y q.h).1
theorem okWa_at {q : Wa} (h : okWa q = true) : (in48 q.a ∧ in48 q.b ∧ in48 q.wd ∧ in48 q.h ∧ in48 q.y) ∧ 0 ≤ q.wd := by
  unfold okWa at h
  exact of_decide_eq_true h
theorem near_low {L : List Fo} (h : nearB L = true) : Lowish L := fun f hf => by
  obtain ⟨_, h1, _, h3, _⟩ := nearF_at (nearB_at h f hf)
  unfold far
  omega
theorem topA_first {L : List Fo} {q : Wa} (hl : Lowish L) (hq : okWa q = true) : IsFirst (soW L q) q.y (topA L q) := by
  obtain ⟨⟨h1, h2, h3, h4, h5⟩, h6⟩ := okWa_at hq
  unfold in48 at h1 h2 h3 h4 h5
  exact soA_first hl (by unfold far; omega) (by unfold far; omega) (by unfold far; omega) (by unfold far; omega)
theorem topA_in {L : List Fo} {q : Wa} (h : nearB L = true) (hq : okWa q = true) : -562949953421312 ≤ topA L q ∧ topA L q ≤ 562949953421312 := by
  obtain ⟨⟨h1, h2, h3, h4, h5⟩, h6⟩ := okWa_at hq
  unfold in48 at h1 h2 h3 h4 h5
  have hf := (topA_first (near_low h) hq).1
  refine ⟨by omega, ?_⟩
  unfold topA
  rcases firstL_mem (soW L q) (rest (full (shelves L)) q.y) q.y with e | ⟨s, hs, e⟩
  · rw [e]; omega
  · rw [e]
    have hs' : s ∈ full (shelves L) := List.mem_of_mem_drop hs
    rcases List.mem_cons.1 hs' with rfl | hs'
    · decide
    · obtain ⟨f, hf, e2⟩ := tops_in L s hs'
      obtain ⟨_, g1, _, g3, _⟩ := nearF_at (nearB_at h f hf)
      rcases e2 with e2 | e2 <;> (rw [e2]; omega)
theorem leftA_in {L : List Fo} {q : Wa} {y : Int} (hs : soW L q y = true) (hw : 0 ≤ q.wd) : q.a ≤ leftA L q y ∧ leftA L q y ≤ max q.a q.b ∧ (leftA L q y + q.wd ≤ q.b ∨ (q.b - q.a < q.wd ∧ leftA L q y = q.a)) := by
  unfold soW soA freeS at hs
  unfold leftA freeS
  simp only [decide_eq_true_eq] at hs ⊢
  omega
theorem soA_narrow {L : List Fo} {a b wd wd' h z : Int} (hw : wd' ≤ wd) (hs : soA L a b wd h z = true) : soA L a b wd' h z = true := by
  unfold soA freeS at hs ⊢
  simp only [decide_eq_true_eq] at hs ⊢
  omega
theorem soA_room {L : List Fo} {a b b' wd h z : Int} (hb : b' ≤ b) (hw : wd ≤ b' - a) (hs : soA L a b' wd h z = true) : soA L a b wd h z = true := by
  unfold soA freeS at hs ⊢
  simp only [decide_eq_true_eq] at hs ⊢
  omega
theorem soA_tall {L : List Fo} {a b wd h k z : Int} (hk : h ≤ k) (hs : soA L a b wd k z = true) : soA L a b wd h z = true := by
  have hm := bnds_tall (L := L) (y := z) hk
  unfold soA freeS at hs ⊢
  simp only [decide_eq_true_eq] at hs ⊢
  omega
theorem bnds_flat (L : List Fo) (y : Int) : bnds L y 0 = bnds L y 1 := rfl
theorem topA_le {L : List Fo} {q q' : Wa} (hl : Lowish L) (hq : okWa q = true) (hq' : okWa q' = true) (hy : q.y ≤ q'.y) (h : ∀ z, soW L q' z = true → soW L q z = true) : topA L q ≤ topA L q' :=
  (topA_first hl hq).2.2 _ (by have := (topA_first hl hq').1; omega) (h _ (topA_first hl hq').2.1)
theorem topA_none {q : Wa} (hq : okWa q = true) : topA [] q = q.y ∧ leftA [] q q.y = q.a := by
  obtain ⟨⟨h1, h2, h3, h4, h5⟩, h6⟩ := okWa_at hq
  unfold in48 at h1 h2 h3 h4 h5
  have hr : rest (full (shelves [])) q.y = [] := by
    apply rest_nil
    have hb := below_spec (full (shelves [])) q.y (full_asc ShOk.nil)
    have h0 : 0 < (full (shelves [])).length := Nat.succ_pos _
    intro hlt
    have e : below (full (shelves [])) q.y = 0 := by
      have : (full (shelves [])).length = 1 := rfl
      omega
    have := (hb.2 0 h0).1 (by omega)
    have e2 : (full (shelves []))[0].t = -far := rfl
    rw [e2] at this
    unfold far at this
    omega
  refine ⟨by unfold topA; rw [hr]; rfl, ?_⟩
  unfold leftA freeS
  rw [bnds_beyond (fun f hf => by simp at hf)]
  unfold far
  simp only
  omega
/-- No full float meets a box that was placed. -/
theorem apartA {L : List Fo} {q : Wa} {t : Int} (hs : soW L q t = true) {f : Fo} (hf : f ∈ L) (hsd : f.s = 1 ∨ f.s = 2) :
    fullB (max f.x0 (leftA L q t)) (max f.y0 t) (min f.x1 (leftA L q t + q.wd)) (min f.y1 (t + q.h)) = false := by
  unfold fullB
  refine decide_eq_false fun hh => ?_
  have hb := band_is L t (t + hgh q.h)
  have hz1 : t ≤ max f.y0 t := by omega
  have hz2 : max f.y0 t < t + hgh q.h := by unfold hgh; omega
  have hc : cnts f = true := decide_eq_true ⟨by omega, by omega, hsd⟩
  have hit : hits f (max f.y0 t) := ⟨hc, by omega, by omega⟩
  unfold soW soA freeS at hs
  unfold leftA freeS at hh
  simp only [decide_eq_true_eq] at hs hh
  by_cases e : f.s = 1
  · have h1 := (bnd_l L (max f.y0 t)).1 f hf hit e
    have h2 := hb.l2 _ hz1 hz2
    have h3 : f.x1 ≤ (bnds L t q.h).1 := Int.le_trans h1 h2
    omega
  · have h1 := (bnd_r L (max f.y0 t)).1 f hf hit e
    have h2 := hb.r2 _ hz1 hz2
    have h3 : (bnds L t q.h).2 ≤ f.x0 := Int.le_trans h2 h1
    omega
end Go.Proofs.Ytecojcdmigmnhaa
